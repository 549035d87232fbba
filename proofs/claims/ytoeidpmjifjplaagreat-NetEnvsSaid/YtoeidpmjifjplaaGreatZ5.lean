/- Texts put together. No statement is proved here. -/
import Derived.Test.YtoeidpmjifjplaaGreatZ4
set_option linter.all false
set_option maxRecDepth 10000
set_option maxHeartbeats 8000000
namespace Go.Proofs.YtoeidpmjifjplaaGreat
open Go.RowKit Tryz
section
section
variable {P:Program} {r:Option Nat} {ro:Ro} {ops:Array Oper} {md:Region.Mode} {st:St}
def Gb (P:Program)(r:Option Nat)(ro:Ro)(md:Region.Mode)(ops:Array Oper)(p:Nat)(Q:AA->St->Prop):Nat->Array Bool->AA->St->Prop
|0,_,_,_=>False
|fuel+1,listed,A,st=>Region.ready md ops listed≠[]/\∀i∈Region.ready md ops listed,∀o,ops[i]?=some o ->
  if i=p then CS P r ro true ops o (λA' st'=>∃ro2,Dj ro2 st'/\Dg P r ro2 md ops Q fuel (listed.setIfInBounds i true) A' st') A st
  else CS P r ro false ops o (Gb P r ro md ops p Q fuel (listed.setIfInBounds i true)) A st
def Oa (o:Oper):Bool:=Dn o && match o.op with
|.load _ _=>false
|_=>true
theorem de{ro ro':Ro}{o:Oper}{e:Nat->D}(h:Oa o=true):frC P ro o e=frC P ro' o e:=by
 unfold Oa at h
 unfold frC
 split
 . rename_i t x hop
   rw[hop]at h
   simp at h
 . rfl
def Nf (ms:List Nat)(ops:Array Oper)(p:Nat):Prop:=∀j oj,ops[j]?=some oj->j≠p->Dh ms j p=true\/Dh ms p j=true\/Oa oj=true
theorem Mk{ms:List Nat}(hms:MOk md ops.toList ms){p:Nat}(hB:Nf ms ops p){Q:AA->St->Prop}{op:Oper}(hp:ops[p]?=some op):∀(fuel:Nat) (listed:Array Bool) (A:AA) (st:St),Dj ro st->DC md ops listed ->
 (∀j oj,ops[j]?=some oj->j≠p->listed.getD j true=false->Dh ms j p=false->op.apart ops oj=true)->p∈Region.ready md ops listed ->
 CS P r ro true ops op (λA' st'=>∃ro2,Dj ro2 st'/\Dg P r ro2 md ops Q fuel (listed.setIfInBounds p true) A' st') A st->Gb P r ro md ops p Q (fuel+1) listed A st:=by
 intro fuel
 induction fuel with
|zero =>
  intro listed A st hw hdc hfree hr H
  refine⟨λh=>(by rw[h]at hr;cases hr),λi hi oi hoi=>?_⟩
  by_cases hip:i=p
  . subst hip
    rw[hp]at hoi;cases hoi
    rw[if_pos rfl];exact H
  . exfalso
    obtain⟨v,w',_,ro2,_,h1⟩:=Iz hw H
    have h2:=ready_mono hi hip
    rw[h1.1]at h2
    cases h2
|succ fuel ih =>
  intro listed A st hw hdc hfree hr H
  refine⟨λh=>(by rw[h]at hr;cases hr),λj hj oj hoj=>?_⟩
  by_cases hjp:j=p
  . subst hjp
    rw[hp]at hoj;cases hoj
    rw[if_pos rfl];exact H
  . rw[if_neg hjp]
    have h1:=hdc.ready hms (GH hr) hj
    have h2:=hdc.ready hms (GH hj) hr
    have hpu:Oa oj=true:=by
     rcases hB j oj hoj hjp with h|h|h
     . rw[h1]at h;cases h
     . rw[h2]at h;cases h
     . exact h
    have hfj:Dn oj=true:=by
     unfold Oa at hpu
     rw[AF]at hpu
     exact hpu.1
    have hdc':=hdc.step hj
    obtain⟨hjun, -⟩:=mem_ready.1 hj
    have hap:=hfree j oj hoj hjp hjun h1
    obtain⟨d1,d2,d3⟩:=Qi hap
    have hri:=ready_mono hr (LA hjp)
    have hcomm:(listed.setIfInBounds j true).setIfInBounds p true=(listed.setIfInBounds p true).setIfInBounds j true:=NY _ _ hjp
    have hfree':∀k ok,ops[k]?=some ok->k≠p->(listed.setIfInBounds j true).getD k true=false->Dh ms k p=false->op.apart ops ok=true:=λk ok hk hkp hun hno=>by
     refine hfree k ok hk hkp ?_ hno
     by_cases hjk:j=k
     . subst hjk;exact hjun
     . rw[getD_set_ne true hjk]at hun;exact hun
    have hij:∀v st' ro2,Dg P r ro2 md ops Q (fuel+1) (listed.setIfInBounds p true) (A.put op.dst v) st' ->
     CS P r ro2 (decide (j+1=ops.size) && Bx ops) ops oj (Dg P r ro2 md ops Q fuel ((listed.setIfInBounds j true).setIfInBounds p true)) (A.put op.dst v) st':=λv st' ro2 h=>by
     have:=h.2 j (ready_mono hj hjp) oj hoj
     rw[hcomm];exact this
    have hjw:∀v,Ct ops oj (A.put op.dst v).e=Ct ops oj A.e:=λv=>Gw d1
    have hje:∀v ro2,frC P ro2 oj (A.put op.dst v).e=frC P ro oj A.e:=λv ro2=>(IA (Kb d1)).trans (de hpu)
    by_cases hwj:Ct ops oj A.e=true
    . obtain⟨v1,w1,hc1,ro1,q1,k1⟩:=Iz hw H
      have k2:=hij v1 w1 ro1 k1
      unfold CS at k2
      rw[hjw v1,if_pos hwj,if_pos hfj,hje v1]at k2
      obtain⟨u,hu,_⟩:=k2
      have hstep:CS P r ro true ops op (λA' st'=>∃ro2,Dj ro2 st'/\Dg P r ro2 md ops Q fuel ((listed.setIfInBounds j true).setIfInBounds p true) A' st') (A.put oj.dst u) st:=by
       refine JF hap (EB hw (λv w' hc ⟨ro2,g1,g2⟩=>⟨ro2,g1,?_⟩) H)
       have k3:=hij v w' ro2 g2
       unfold CS at k3
       rw[hjw v,if_pos hwj,if_pos hfj,hje v]at k3
       obtain⟨u',hu',k4⟩:=k3
       rw[hu]at hu'
       cases hu'
       exact k4
      unfold CS
      rw[if_pos hwj,if_pos hfj]
      exact⟨u,hu,ih _ _ _ hw hdc' hfree' hri hstep⟩
    . have hstep : CS P r ro true ops op (λA' st' => ∃ ro2, Dj ro2 st' /\ Dg P r ro2 md ops Q fuel ((listed.setIfInBounds j true).setIfInBounds p true) A' st') (A.put oj.dst D.un) st := by
       refine JF hap (EB hw (λv w' hc ⟨ro2,g1,g2⟩=>⟨ro2,g1,?_⟩) H)
       have k3:=hij v w' ro2 g2
       unfold CS at k3
       rw[hjw v,if_neg hwj]at k3
       exact k3
      unfold CS
      rw[if_neg hwj]
      exact ih _ _ _ hw hdc' hfree' hri hstep
theorem Ml{ms : List Nat}(hms:MOk md ops.toList ms){p:Nat}{Q:AA->St->Prop}{i:Nat}{oi:Oper}(hi:ops[i]?=some oi)(hip:i≠p)(hpi:Dh ms p i=true) :
 ∀(fuel:Nat) (listed:Array Bool) (A:AA) (st:St),Dj ro st->DC md ops listed ->
  (∀j oj,ops[j]?=some oj->j≠i->listed.getD j true=false->Dh ms j i=false->oi.apart ops oj=true/\(Dn oi=true\/Dn oj=true)) ->
  i∈Region.ready md ops listed ->
  CS P r ro false ops oi (Gb P r ro md ops p Q fuel (listed.setIfInBounds i true)) A st->Gb P r ro md ops p Q (fuel+1) listed A st:=by
 intro fuel
 induction fuel with
|zero =>
  intro listed A st hw _ _ hr H
  obtain⟨v,w',_,h1⟩:=Iz hw H
  exact h1.elim
|succ fuel ih =>
  intro listed A st hw hdc hfree hr H
  refine⟨λh=>(by rw[h]at hr;cases hr),λj hj oj hoj=>?_⟩
  by_cases hji:j=i
  . subst hji
    rw[hi]at hoj;cases hoj
    rw[if_neg hip];exact H
  . obtain⟨hjun,oj',hoj',hall⟩:=mem_ready.1 hj
    rw[hoj]at hoj';cases hoj'
    have hnot:=hdc.ready hms (GH hr) hj
    have hjp:j≠p:=λe=>by
     subst e
     rw[hpi]at hnot;cases hnot
    rw[if_neg hjp]
    have hdc':=hdc.step hj
    obtain⟨hap,hfk⟩:=hfree j oj hoj hji hjun hnot
    obtain⟨d1,d2,d3⟩:=Qi hap
    have hfree':∀k ok,ops[k]?=some ok->k≠i->(listed.setIfInBounds j true).getD k true=false ->
     Dh ms k i=false->oi.apart ops ok=true/\(Dn oi=true\/Dn ok=true):=λk ok hk hki hun hno=>by
     refine hfree k ok hk hki ?_ hno
     by_cases hjk:j=k
     . subst hjk;exact hjun
     . rw[getD_set_ne true hjk]at hun;exact hun
    have hri:=ready_mono hr (LA hji)
    have hcomm:(listed.setIfInBounds j true).setIfInBounds i true=(listed.setIfInBounds i true).setIfInBounds j true:=NY _ _ hji
    have hij:∀v st',Gb P r ro md ops p Q (fuel+1) (listed.setIfInBounds i true) (A.put oi.dst v) st' ->
     CS P r ro false ops oj (Gb P r ro md ops p Q fuel ((listed.setIfInBounds j true).setIfInBounds i true)) (A.put oi.dst v) st':=λv st' h=>by
     have:=h.2 j (ready_mono hj hji) oj hoj
     rw[if_neg hjp]at this
     rw[hcomm];exact this
    have hjw:∀v,Ct ops oj (A.put oi.dst v).e=Ct ops oj A.e:=λv=>Gw d1
    have hje:∀v,frC P ro oj (A.put oi.dst v).e=frC P ro oj A.e:=λv=>IA (Kb d1)
    have hput:∀v u,(A.put oi.dst v).put oj.dst u=(A.put oj.dst u).put oi.dst v:=λv u=>Pf A v u d2
    by_cases hwj:Ct ops oj A.e=true
    . by_cases hfj:Dn oj=true
      . obtain⟨v1,w1,hc1,k1⟩:=Iz hw H
        have k2:=hij v1 w1 k1
        unfold CS at k2
        rw[hjw v1,if_pos hwj,if_pos hfj,hje v1]at k2
        obtain⟨u,hu,_⟩:=k2
        have hstep:CS P r ro false ops oi (Gb P r ro md ops p Q fuel ((listed.setIfInBounds j true).setIfInBounds i true)) (A.put oj.dst u) st:=by
         refine JF hap (EB hw (λv w' hc h=>?_) H)
         have k3:=hij v w' h
         unfold CS at k3
         rw[hjw v,if_pos hwj,if_pos hfj,hje v]at k3
         obtain⟨u',hu',k4⟩:=k3
         rw[hu]at hu'
         cases hu'
         exact k4
        unfold CS
        rw[if_pos hwj,if_pos hfj]
        exact⟨u,hu,ih _ _ _ hw hdc' hfree' hri hstep⟩
      . have hfi:Dn oi=true:=hfk.resolve_right hfj
        have key:∀v,Gb P r ro md ops p Q (fuel+1) (listed.setIfInBounds i true) (A.put oi.dst v) st->(∀u st',Dj ro st'->Gb P r ro md ops p Q fuel ((listed.setIfInBounds j true).setIfInBounds i true) ((A.put oj.dst u).put oi.dst v) st'->CS P r ro false ops oi (Gb P r ro md ops p Q fuel ((listed.setIfInBounds j true).setIfInBounds i true)) (A.put oj.dst u) st') ->
         CS P r ro false ops oj (Gb P r ro md ops p Q (fuel+1) (listed.setIfInBounds j true)) A st:=λv h hback=>by
         have k3:=hij v st h
         unfold CS at k3 |-
         rw[hjw v,if_pos hwj,if_neg hfj]at k3
         rw[if_pos hwj,if_neg hfj]
         obtain⟨k4,u,st',k5,k6⟩:=k3
         refine⟨(Nx (Kb d1) k4).mono λu st' hk=>⟨hk.1,?_⟩,u,st',k5,?_⟩
         . have hk2:=hk.2
           rw[hput v u]at hk2
           have hk1:=hk.1.resolve_left AJ
           exact ih _ _ _ hk1 hdc' hfree' hri (hback u st' hk1 hk2)
         . rw[hput v u]at k6
           have hk1:=k5.resolve_left AJ
           exact ih _ _ _ hk1 hdc' hfree' hri (hback u st' hk1 k6)
        have hiw:∀u,Ct ops oi (A.put oj.dst u).e=Ct ops oi A.e:=λu=>Gw d3
        have hie:∀u,frC P ro oi (A.put oj.dst u).e=frC P ro oi A.e:=λu=>IA (Kb d3)
        unfold CS at H
        by_cases hwi:Ct ops oi A.e=true
        . rw[if_pos hwi,if_pos hfi]at H
          obtain⟨v,hv,h⟩:=H
          refine key v h λu w' hc hk=>?_
          unfold CS
          rw[hiw u,if_pos hwi,if_pos hfi,hie u]
          exact⟨v,hv,hk⟩
        . rw[if_neg hwi]at H
          refine key D.un H λu w' hc hk=>?_
          unfold CS
          rw[hiw u,if_neg hwi]
          exact hk
    . have hstep : CS P r ro false ops oi (Gb P r ro md ops p Q fuel ((listed.setIfInBounds j true).setIfInBounds i true)) (A.put oj.dst D.un) st := by
       refine JF hap (EB hw (λv w' hc h=>?_) H)
       have k3:=hij v w' h
       unfold CS at k3
       rw[hjw v,if_neg hwj]at k3
       exact k3
      unfold CS
      rw[if_neg hwj]
      exact ih _ _ _ hw hdc' hfree' hri hstep
theorem OD{ms:List Nat}(hms:MOk md ops.toList ms)(hL:Kr ms ops)(hall:Bx ops=true){p:Nat}(hBt:Nf ms ops p){op:Oper}{l2:List Oper}{Q:AA->St->Prop}:∀(l1:List Oper) (k:Nat) (listed:Array Bool) (A:AA) (st:St),Dj ro st->DC md ops listed->k+l1.length=p->(∀i,k<=i->i<p->Dh ms p i=true)->(∀j,(l1++op::l2)[j]?=ops[k+j]?) ->
 GJ md ms ops (l1++op::l2).length k listed=true->EW P r ro ops (λA' st'=>∃ro2,Dj ro2 st'/\EW P r ro2 ops Q l2 A' st') (l1++[op]) A st->Gb P r ro md ops p Q (l1++op::l2).length listed A st
|[],k,listed,A,st,hw,hdc,hk,hwt,hl,hB,h=>by
  have hkp:k=p:=hk
  subst hkp
  have h0:ops[k]?=some op:=by simpa using (hl 0).symm
  simp only[AM,An,GJ,AF]at hB
  obtain⟨⟨hr,hf⟩,hB'⟩:=hB
  have hrk:k∈Region.ready md ops listed:=by simpa using hr
  refine Mk hms hBt h0 _ _ _ _ hw hdc (λj oj hj hne hun hno=>(EI h0 hf j oj hj hne hun hno).1) hrk ?_
  have h:CS P r ro (true && Bx ops) ops op (λA' st'=>∃ro2,Dj ro2 st'/\EW P r ro2 ops Q l2 A' st') A st:=h
  rw[hall]at h
  refine EB hw (λv w' _ ⟨ro2,q1,q2⟩=>⟨ro2,q1,?_⟩) h
  exact LO hms hL l2 (k+1) _ _ _ q1 (hdc.step hrk) (λj=>by have:=hl (j+1);simpa [FU,Dw 1 j]using this) hB' q2
|o::l1,k,listed,A,st,hw,hdc,hk,hwt,hl,hB,h=>by
  have h0:ops[k]?=some o:=by simpa using (hl 0).symm
  simp only[AI,An,GJ,AF]at hB
  obtain⟨⟨hr,hf⟩,hB'⟩:=hB
  rw[An]at hk
  refine Ml hms h0 q_o (hwt k (Ap _) q_o) _ listed A st hw hdc (EI h0 hf) (by simpa using hr) ?_
  have h:CS P r ro ((l1++[op]).isEmpty && Bx ops) ops o (EW P r ro ops (λA' st'=>∃ro2,Dj ro2 st'/\EW P r ro2 ops Q l2 A' st') (l1++[op])) A st:=h
  have hne:(l1++[op]).isEmpty=false:=by simp
  rw[hne,Aw]at h
  refine EB hw (λv w' hc hk'=>?_) h
  exact OD hms hL hall hBt l1 (k+1) _ _ _ (hc.resolve_left AJ) (hdc.step (by simpa using hr)) q_o (λi h1 h2=>hwt i q_o h2) (λj=>by have:=hl (j+1);simpa [FU,Dw 1 j]using this) hB' hk'
theorem Ik{N:Nat}{ms:List Nat}(hms:MOk md ops.toList ms)(hL:Kr ms ops){p:Nat}{K:AA->St->Prop}(hok:∀(i:Nat) (o:Oper),ops[i]?=some o->JH N o.dst=true/\Gr N ops o=true):∀(fuel:Nat) (listed:Array Bool) (A:AA) (st:St) (a:Act) (w:World) (Q:Exit->Act->World->Prop),Dj ro st->DC md ops listed->RelA N (OwnS st) w a A->Holds st w->Gb P r ro md ops p K fuel listed A st ->
 (∀A' st' a' w',RelA N (OwnS st') w' a' A'->Holds st' w'->Ext (OwnS st) w (OwnS st') w'->K A' st'->Q .normal a' w')->wpAnyIn (FR r) 0 P md ops Q fuel listed a w
|0,listed,A,st,a,w,Q,hk,hdc,hr,hh,h,hQ=>h.elim
|fuel+1,listed,A,st,a,w,Q,hk,hdc,hr,hh,h,hQ=>by
  refine⟨λh0=>absurd h0 h.1,λi hi=>?_⟩
  obtain⟨_,o,ho,_⟩:=mem_ready.1 hi
  obtain⟨hd,hg⟩:=hok i o ho
  have hm:=h.2 i hi o ho
  unfold wpOpIn
  simp only[ho]
  rw[LR hr ops o (Ka hg)]
  by_cases hip:i=p
  . rw[if_pos hip]at hm
    unfold CS at hm
    split
    . rename_i hw
      rw[if_pos hw]at hm
      refine Ij ?_
      have hC:OpC P r o A.e st λd st'=>∃ro2,Dj ro2 st'/\Dg P r ro2 md ops K fuel (listed.setIfInBounds i true) (A.put o.dst d) st':=by
       split at hm
       . obtain⟨d,k1,k2⟩:=hm
         exact(Ll hk k1).opC k2
       . exact hm.1.mono λd st' hkp=>hkp.2
      exact(hC a.eval w (hr.repE _) hh).mono λv w' ⟨d,st',k1,k2,k3,ro2,k4,k5⟩ =>
       Fo hms hL hok fuel _ _ st' _ w' Q (.inl k4) (hdc.step hi) ((hr.ext k3).put hd k1) k2 k5 λA' st'' a' w'' q1 q2 q3 q4=>hQ A' st'' a' w'' q1 q2 (k3.trans q3) q4
    . rename_i hw
      rw[if_neg hw]at hm
      obtain⟨ro2,k4,k5⟩:=hm
      exact⟨λf _=>trivial,Fo hms hL hok fuel _ _ st _ w Q (.inl k4) (hdc.step hi) (hr.put hd (.s undef rfl)) hh k5 hQ⟩
  . rw[if_neg hip]at hm
    unfold CS at hm
    split
    . rename_i hw
      rw[if_pos hw]at hm
      refine Ij ?_
      have hC:OpC P r o A.e st λd st'=>Dj ro st'/\Gb P r ro md ops p K fuel (listed.setIfInBounds i true) (A.put o.dst d) st':=by
       split at hm
       . obtain⟨d,k1,k2⟩:=hm
         exact(Ll hk k1).opC ⟨hk,k2⟩
       . exact hm.1.mono λd st' hkp=>⟨hkp.1.resolve_left AJ,hkp.2⟩
      exact(hC a.eval w (hr.repE _) hh).mono λv w' ⟨d,st',k1,k2,k3,k4,k5⟩ =>
       Ik hms hL hok fuel _ _ st' _ w' Q k4 (hdc.step hi) ((hr.ext k3).put hd k1) k2 k5 λA' st'' a' w'' q1 q2 q3 q4=>hQ A' st'' a' w'' q1 q2 (k3.trans q3) q4
    . rename_i hw
      rw[if_neg hw]at hm
      exact⟨λf _=>trivial,Ik hms hL hok fuel _ _ st _ w Q hk (hdc.step hi) (hr.put hd (.s undef rfl)) hh hm hQ⟩
def PZ (l:List Oper)(p:Nat):Bool:=Bx l.toArray && (List.range l.length).all λj=>j == p || (if j<p then Dh (ER .any l []) p j else Dh (ER .any l []) j p || ((l[j]?).any Oa))
theorem aY{N:Nat}{id:Nat}{l:List Oper}{A:AA}{Q:Exit->AA->St->Prop}(ro:Ro)(l1:List Oper)(op:Oper)(l2:List Oper)(hl:l=l1++op::l2)(hm:P.follows .mixedOrders=true)(hB:JE .any l.toArray=true)(hok:GR N l=true)(hbt:PZ l l1.length=true)(hC:Dj ro st)
 (h:EW P r ro l.toArray (λA' st'=>∃ro2,Dj ro2 st'/\EW P r ro2 l.toArray (Q .normal) l2 A' st') (l1++[op]) A st):Tr P N r (.region id l.toArray true) A st Q:=by
 intro a w h1 h2
 have hok':∀(i:Nat) (o:Oper),l.toArray[i]?=some o->JH N o.dst=true/\Gr N l.toArray o=true:=λi o ho=>by
  have:=AU.1 hok o (by simp at ho;exact Ah ho)
  simpa using this
 have he:=Ext.drew (OwnS st) w
 have hms:=Ho (md:=.any) l l [] (by simp) (λk i h=>by simp at h)
 have hL:Kr (ER .any l []) l.toArray:=λh j i hj hi hne=>by
  unfold Bx at h
  have:=AU.1 h i (Fu.2 q_o)
  rw[show l.toArray.size - 1=j by omega]at this
  exact this
 unfold PZ at hbt
 rw[AF]at hbt
 have hsz:l.toArray.size=l.length:=by simp
 have hb:∀j,j<l.length->j≠l1.length->(if j<l1.length then Dh (ER .any l []) l1.length j else Dh (ER .any l []) j l1.length || ((l[j]?).any Oa))=true:=λj hj hne=>by
  have:=AU.1 hbt.2 j (Fu.2 hj)
  rw[Co,beq_iff_eq]at this
  exact this.resolve_left hne
 have hBt:Nf (ER .any l []) l.toArray l1.length:=λj oj hj hne=>by
  have hjl:=(AE.1 hj).1
  have:=hb j (by rw[<-hsz];exact hjl) hne
  split at this
  . exact .inr (.inl this)
  . rw[Co]at this
    rcases this with h|h
    . exact .inl h
    . refine .inr (.inr ?_)
      rw[show l[j]?=some oj by simpa using hj]at h
      exact h
 have hdc:DC .any l.toArray (Array.replicate l.toArray.size false):=λk o _ hl=>absurd hl (by rw[IW];exact AJ)
 have hlen:l1.length<l.length:=by rw[hl];simp
 have hany:=OD (P:=P) (r:=r) (ro:=ro) (md:=.any) hms hL hbt.1 hBt (op:=op) (l2:=l2) (Q:=Q .normal) l1 0 (Array.replicate l.toArray.size false) A st hC hdc q_o (λi _ hi=>by
  have:=hb i q_o q_o
  rwa[if_pos hi]at this) (λj=>by rw[<-hl];simp) (by rw[<-hl];simpa [JE]using hB) h
 refine wpIn_region_any hm ?_
 rw[<-hl]at hany
 rw[hsz]at hany hdc |-
 exact Ik hms hL hok' _ _ A st a w.drew _ hC hdc (h1.ext he) (h2.drewN 1) hany λA' st' a' w' q1 q2 q3 q5=>⟨A',st',q1,q2,he.trans q3,q5⟩
theorem ZI{f:Bool}{o:Oper}{A:AA}{K K':AA->St->Prop}(h:∀A st,K A st->K' A st)(hh:CS P r ro f ops o K A st):CS P r ro f ops o K' A st:=by
 unfold CS at *
 split
 . rename_i hw
   rw[if_pos hw]at hh
   split
   . rename_i hf
     rw[if_pos hf]at hh
     obtain⟨d,h1,h2⟩:=hh
     exact⟨d,h1,h _ _ h2⟩
   . rename_i hf
     rw[if_neg hf]at hh
     obtain⟨h1,d,st',h2,h3⟩:=hh
     exact⟨h1.mono λd st' hk=>⟨hk.1,h _ _ hk.2⟩,d,st',h2,h _ _ h3⟩
 . rename_i hw
   rw[if_neg hw]at hh
   exact h _ _ hh
theorem Ja{K K':AA->St->Prop}(h:∀A st,K A st->K' A st):∀(l:List Oper) (A:AA) (st:St),EW P r ro ops K l A st->EW P r ro ops K' l A st
|[],A,st,hh=>h A st hh
|o::l,A,st,hh=>ZI (Ja h l) hh
def ne1 (b:Nat):St->Prop
|[]=>True
|.box b' _ _::s=>((b' == b)=false/\(b == b')=false)/\ne1 b s
|_::s=>ne1 b s
def nes:St->Prop
|[]=>True
|.box b _ _::s=>ne1 b s/\nes s
|_::s=>nes s
theorem cB{b:Nat}{x:Res}(hb:x.blk=some b):∀{s:St},(∀y∈s,Apart x y)->ne1 b s
|[],_=>trivial
|y::s,h=>by
  have ht:ne1 b s:=cB hb λz hz=>h z (Ae _ hz)
  cases y with
  | box b' ty cs =>
   have hne:b'≠b:=λe=>h _ (Ag ..) b hb (by rw[<-e];rfl)
   exact⟨⟨beq_eq_false_iff_ne.2 hne,beq_eq_false_iff_ne.2 hne.symm⟩,ht⟩
  | room=>exact ht
  | raw=>exact ht
  | know=>exact ht
theorem cA:∀{s:St},s.Pairwise Apart->nes s
|[],_=>trivial
|y::s,h=>by
  have h':=AX.1 h
  have ht:=cA h'.2
  cases y with
  | box b ty cs=>exact⟨cB rfl h'.1,ht⟩
  | room=>exact ht
  | raw=>exact ht
  | know=>exact ht
theorem OF{N:Nat}{c:Code}{A:AA}{Q:Exit->AA->St->Prop}(h:nes st->Tr P N r c A st Q):Tr P N r c A st Q:=λa w ha hh=>h (cA hh.1) a w ha hh
theorem SH{N:Nat}{id:Nat}{l:List Oper}{A:AA}{Q:Exit->AA->St->Prop}(ro:Ro)(n:Nat){t1 t2:List Oper}(hm:P.follows .mixedOrders=true)(hB:JE .any l.toArray=true)(hok:GR N l=true)(hbt:PZ l n=true)(h1:l.take (n+1)=t1)(h2:l.drop (n+1)=t2)(hC:CZ (some ro) st)
 (h:nes st->W P r (some ro) l.toArray (λA' st'=>∃ro2,CZ (some ro2) st'/\W P r (some ro2) l.toArray (Q .normal) t2 A' st') t1 A st):Tr P N r (.region id l.toArray true) A st Q:=by
 refine OF λhne=>?_
 subst h1 h2
 by_cases hn:n<l.length
 . have hl:l=l.take n++l[n]::l.drop (n+1):=by rw[nP,Bv]
   have hlen:(l.take n).length=n:=by rw[AQ];omega
   refine aY ro (l.take n) l[n] (l.drop (n+1)) hl hm hB hok (by rw[hlen];exact hbt) hC ?_
   rw[show l.take n++[l[n]]=l.take (n+1)from(List.take_succ_eq_append_getElem hn).symm]
   exact Ja (λA' st' ⟨ro2,k1,k2⟩=>⟨ro2,k1,k2⟩) _ _ _ (h hne)
 . rw[Bj q_o,Az q_o]at h
   exact XB ro hm hB hok hC (Ja (λA' st' ⟨ro2,k1,k2⟩=>k2) _ _ _ (h hne))
theorem Da{N:Nat}{id:Nat}{l:List Oper}{A:AA}{Q:Exit->AA->St->Prop}(ro:Ro)(hm:P.follows .mixedOrders=true)(hB:JE .any l.toArray=true)(hok:GR N l=true)(hC:CZ (some ro) st)
 (h:nes st->W P r (some ro) l.toArray (Q .normal) l A st):Tr P N r (.region id l.toArray true) A st Q:=OF λhne=>FL ro hm hB hok hC (h hne)
end
end
theorem aN{P:Program}{r:Option Nat}{st:St}{N:Nat}{id:Nat}{l:List Oper}{A:AA}{Q:Exit->AA->St->Prop}(hm:P.follows .mixedOrders=true)(hB:JE .any l.toArray=true)(hok:GR N l=true)
 (h:nes st->W P r (some (Ly st)) l.toArray (Q .normal) l A st):Tr P N r (.region id l.toArray true) A st Q:=OF λhne=>FL (Ly st) hm hB hok (EL st) (h hne)
theorem QW{P:Program}{r:Option Nat}{st:St}{N:Nat}{id:Nat}{l:List Oper}{A:AA}{Q:Exit->AA->St->Prop}(h:nes st->W P r (some (Ly st)) l.toArray (Q .normal) l A st)(hm:P.follows .mixedOrders=true:=by kernel_rfl)(hB:JE .any l.toArray=true:=by kernel_rfl)(hok:GR N l=true:=by kernel_rfl):Tr P N r (.region id l.toArray true) A st Q:=aN hm hB hok h
section
attribute [local push_cast] RV Br Bl
open Go.RowKit UtfL
def Ol (n:Nat):List D:=[.i n]
def Ip (b:List UInt8):Int:=if Kp b<b.length then -1 else(Gs b).length
theorem eo(tb:Nat)(s:ByteArray)(hs:s.size<=1000000):YE prog 217 [.ptr tb 0] (λx:Nat×Nat=>[.i x.1,.i x.2]) (Il 0 s.data.toList) [.box tb 9 [.str s]] (λK=>K=[.box tb 9 [.str s]]) (λ_ K=>K=[.box tb 9 [.str s]]):=by
 intro l C J Jx hY hJ
 have HY:=Aa hY
 have HJ:=Aa hJ
 clear hY hJ
 have hl:s.data.toList.length=s.size:=by simp
 have hG:=Aa λ(o:Own) (p:Nat)=>ep o s.data.toList q_o p
 obtain⟨b,hb⟩:∃b,s.data.toList=b:=⟨_,rfl⟩
 rw[hb]at hl hG HY |-
 have hbm:(b.map Br).length=b.length:=Ab ..
 refine Qin [] func217 results217 ntmps217 ?_
 refine Bn (st':=.box tb 9 [.str s]::C) (.refl _) ?_
 repeat' (first|refine QX ?_|(refine QB ?_;intro b)|refine QP ?_;intro o' ho'|(with_reducible refine QZ ?_<;>(try constructor)<;>intro hb<;>try intro hb1)|fail)
 refine Bs (ι:=Nat) (λp A st'=>∃pre C' o,UtfL.At b pre p/\Hid (J pre.length C')/\A.df=[]/\A.e 0=.fn (.yield l) [] []/\A.e 1=.ptr tb 0/\A.e 3=.sl o (b.map Br)/\A.e 4=.i p/\st'=.box tb 9 [.str s]::C') (λp=>b.length - p) 0 ⟨[],C,_,At.start b,HJ,Qf,Qf,Qf,by rw[<-hb];exact Qf,Qf,rfl⟩ ?_
 clear HJ
 rintro p A st' ⟨pre,C',o,hat,HJ,hdf,e0,e1,e3,e4,rfl⟩
 have hp:=hat.1
 have HAT:=Aa hat
 clear hat
 have hGp:=hG.out o p
 by_cases hlt:p<b.length
 . cases hg:Jk b (p:Int)with
   | none =>
    have hL:Il 0 b=pre:=HAT.out.done hg
    rw[hg]at hGp
    have hJL:Hid (J (Il 0 b).length C'):=Aa (by rw[hL];exact HJ.out)
    replace hGp:=Aa hGp
    clear HY HAT hG hg hL HJ
    repeat' (first|refine QX ?_|(refine QB ?_;intro b)|refine QP ?_;intro o' ho'|(with_reducible refine QZ ?_<;>(try constructor)<;>intro hb<;>try intro hb1)|fail)
    exact Bf q_x q_y q_u (LE.refl _) ⟨[_],C',rfl,.inl ⟨rfl,hJL.out⟩⟩
   | some q =>
    obtain⟨c,n⟩:=q
    obtain⟨hat2,hn1,hn2⟩:=HAT.out.next hg
    have hp2:=hat2.1
    have hx:(Il 0 b)[pre.length]?=some (p+n,c):=by
     rw[hat2.2.1,Ai,BP (Ap _),Gu];rfl
    have HA:=Aa hat2
    rw[hg]at hGp
    replace hGp:=Aa hGp
    clear HAT hG hg hat2
    repeat' (first|refine QV ?_|((with_reducible apply(SU HY.out HJ.out hx));(focus exact q_v);(focus exact q_v);(focus exact q_l);(focus(repeat(first|exact OJ|apply Mo));done);all_goals(intro C' hC'))|refine QY ?_|(refine QB ?_;intro b)|refine QP ?_;intro o' ho'|(with_reducible refine QZ ?_<;>(try constructor)<;>intro hb<;>try intro hb1)|fail)
    rotate_left
    . exact Bf q_x q_y q_u (LE.refl _) ⟨[_],C',rfl,.inr ⟨_,rfl,hC'⟩⟩
    refine⟨p+n,.box tb 9 [.str s]::C',q_u,⟨pre++[(p+n,c)],C',o,HA.out,Aa (by rw[Ad];exact hC'),?_,?_,?_,?_,?_,rfl⟩,by omega⟩
    all_goals exact Qf
 . obtain rfl:p=b.length:=by omega
   have hL:Il 0 b=pre:=HAT.out.full
   have hJL:Hid (J (Il 0 b).length C'):=Aa (by rw[hL];exact HJ.out)
   clear HY HAT hG hL HJ hGp
   repeat' (first|refine QX ?_|(refine QB ?_;intro b)|refine QP ?_;intro o' ho'|(with_reducible refine QZ ?_<;>(try constructor)<;>intro hb<;>try intro hb1)|fail)
   exact Bf q_x q_y q_u (LE.refl _) ⟨[_],C',rfl,.inl ⟨rfl,hJL.out⟩⟩
theorem er(s:ByteArray)(st:St):TrF prog 216 [.str s] st λd st'=>∃tb:Nat,True/\d=.fn (.func 217) [] [.ptr tb 0]/\st'=.box tb 9 [.str s]::st:=by
 refine Qin [2] func216 results216 ntmps216 ?_
 repeat' (first|with_reducible refine DR ?_|refine QX ?_|refine QB ?_;intro b|with_reducible refine QZ ?_<;>(try constructor)<;>intro hb<;>try intro hb1|fail)
 exact Bf (by simp) q_y (Aj _) (LE.of_eq rfl) ⟨_,trivial,rfl,rfl⟩
theorem YI(s:ByteArray)(hs:s.size<=1000000)(st:St):TrF prog 215 [.str s] st λd st'=>d=.tup [.sl .shared ((Gs s.data.toList).map Ol),.i (Kp s.data.toList:Nat)]/\st'=st:=by
 have hAF:=Aa (er s)
 have hIt:=Aa λtb=>eo tb s hs
 have hl:s.data.toList.length=s.size:=by simp
 have hsl:=(Mw s.data.toList.length 0 s.data.toList (Ap _)).1
 unfold Gs Kp
 generalize Il 0 s.data.toList=L at *
 have hCF0:Hid ((([]:List (List D)),(0:Nat))=(((L.take 0).map (·.2)).map Ol,FX 0 (L.take 0))):=rfl
 obtain⟨CF,hCF⟩:∃CF:Nat->List (List D),(λi=>((L.take i).map (·.2)).map Ol)=CF:=⟨_,rfl⟩
 obtain⟨EF,hEF⟩:∃EF:Nat->Nat,(λi=>FX 0 (L.take i))=EF:=⟨_,rfl⟩
 have hC0:CF 0=[]:=by rw[<-hCF];rfl
 have hE0:EF 0=0:=by rw[<-hEF];rfl
 have hCn:Hid ((L.map (·.2)).map Ol=CF L.length):=Aa (by rw[<-hCF];dsimp only;rw[Cb])
 have hEn:Hid (FX 0 L=EF L.length):=Aa (by rw[<-hEF];dsimp only;rw[Cb])
 have hCs:Hid (∀(i:Nat) (x:Nat×Nat),L[i]?=some x->CF (i+1)=CF i++[Ol x.2]/\EF (i+1)=x.1):=λi x h=>by
  rw[<-hCF,<-hEF]
  dsimp only
  rw[Bk,h,Bw,Bi,Bi,ML]
  exact⟨rfl,rfl⟩
 have hCl:Hid (∀i,(CF i).length<=1000000/\∀a∈CF i,a.length=1):=λi=>by
  rw[<-hCF]
  dsimp only
  refine⟨by rw[Ab,Ab,AQ];omega,λa ha=>?_⟩
  obtain⟨x, -,rfl⟩:=Av.1 ha
  rfl
 rw[hCn.out,hEn.out]
 clear hCF hEF hCF0 hCn hEn
 refine Qin [2,3] func215 results215 ntmps215 ?_
 refine GF 3 1 ([]:List (List D)).length ?_
 repeat' (first|refine QX ?_|(refine QB ?_;intro b)|refine QP ?_;intro o' ho'|(with_reducible refine QZ ?_<;>(try constructor)<;>intro hb<;>try intro hb1)|((with_reducible apply(Yt call216));(focus exact LEL.refl _);(focus exact hAF.out _);(focus exact⟨0,trivial⟩);intro tb htb)|fail)
 rename_i b1
 refine Bn (st':=[.box tb 9 [.str s]]++(.box b 3 [.i (EF 0)]::.box b1 50 [.sl .tight (CF 0)]::.room .tight 3 1 (CF 0).length::st)) (by rw[hC0,hE0];exact .refl _) ?_
 refine TY (hIt.out tb) call217 q_v (λ_=>rfl) rfl (λi C=>∃o,o≠.shared/\C=(.box b 3 [.i (EF i)]::.box b1 50 [.sl o (CF i)]::.room o 3 1 (CF i).length::st)) (λ_ _ _=>False) ⟨.tight,IJ,rfl⟩ (λi _=>⟨_,.tight,IJ,rfl⟩) ?_ ?_ (λ_ _ _ _ _ _ h=>h.elim)
 . rintro l i ⟨y,v⟩ C K hx ⟨o,ho,rfl⟩
   obtain⟨h1,h2⟩:=hCs.out i _ hx
   obtain⟨h3,h4⟩:=hCl.out i
   clear hx hCs hCl hIt hAF hC0 hE0
   dsimp only at h1 h2
   refine(?_:Tr _ _ _ _ (AA.put (AA.put ⟨_,[]⟩ (some 10) (.i y)) (some 11) (.i v)) (.box b 3 [.i (EF i)]::.box b1 50 [.sl o (CF i)]::.room o 3 1 (CF i).length::(st++K)) _)
   repeat' (first|refine QX ?_|(refine QB ?_;intro b)|refine QP ?_;intro o' ho'|(with_reducible refine QZ ?_<;>(try constructor)<;>intro hb<;>try intro hb1)|fail)
   refine⟨.box b 3 [.i (EF i)]::.box b1 50 [.sl o (CF i)]::.room o 3 1 (CF i).length::st,Aj _,λK'=>?_⟩
   refine(?_:Tr _ _ _ _ _ (.box b 3 [.i (EF i)]::.box b1 50 [.sl o (CF i)]::.room o 3 1 (CF i).length::(st++K')) _)
   repeat' (first|refine QX ?_|(refine QB ?_;intro b)|refine QP ?_;intro o' ho'|(with_reducible refine QZ ?_<;>(try constructor)<;>intro hb<;>try intro hb1)|fail)
   exact⟨_,Aj _,o',ho',by rw[h1,h2]⟩
 . rintro d K1 C' rfl ⟨o,ho,rfl⟩
   clear hIt hCs hCl hAF hC0 hE0
   change Tr _ _ _ _ _ _ _
   refine Bn (st':=.box b 3 [.i (EF L.length)]::.box b1 50 [.sl o (CF L.length)]::BK d::.box tb 9 [.str s]::.room o 3 1 (CF L.length).length::st) (by show List.Perm (BK d::.box tb 9 [.str s]::.box b 3 [.i (EF L.length)]::.box b1 50 [.sl o (CF L.length)]::.room o 3 1 (CF L.length).length::st) _;(repeat(first|exact Ar _|refine Dl (by repeat(first|exact DA|apply CV)) ?_))) ?_
   repeat' (first|refine QV ?_|((with_reducible refine QW ?_);intro hne;simp only[nes,ne1,and_assoc]at hne;repeat(have hq:=hne.1;replace hne:=hne.2))|refine QY ?_|(refine QB ?_;intro b)|refine QP ?_;intro o' ho'|(with_reducible refine QZ ?_<;>(try constructor)<;>intro hb<;>try intro hb1)|fail)
   all_goals(refine Em (by simp) q_y (by repeat(first|exact DA|apply CV)) q_u ?_ ⟨rfl,rfl⟩;(try simp(disch:=omega) only[push_cast,simprocAttr, *]);try(first|exact q_e|refine LE.of_eq ?_))
theorem YH(s:ByteArray)(hs:s.size<=1000000)(st:St):TrF prog 214 [.str s] st λd st'=>d=.i (Ip s.data.toList)/\st'=st:=by
 have hC:=YI s hs
 have hl:s.data.toList.length=s.size:=by simp
 have hm:((Gs s.data.toList).map Ol).length=(Gs s.data.toList).length:=Ab ..
 unfold Ip
 rw[hl]
 generalize (Gs s.data.toList).map Ol=CC at *
 generalize Gs s.data.toList=C at *
 generalize Kp s.data.toList=e at *
 replace hC:=Aa hC
 by_cases h:e<s.size
 . rw[if_pos h]
   refine Qin [2] func214 results214 ntmps214 ?_
   exact WR
 . rw[if_neg h]
   refine Qin [2] func214 results214 ntmps214 ?_
   exact WR
theorem YF(s:ByteArray)(hs:s.size<=1000000)(st:St):TrF prog 212 [.str s] st λd st'=>d=.b (decide (0<=Ip s.data.toList))/\st'=st:=by
 have hC:=YH s hs
 generalize Ip s.data.toList=c at *
 replace hC:=Aa hC
 refine Qin [2] func212 results212 ntmps212 ?_
 exact WR
end
namespace UtfL
def Vh (x:Nat):Nat:=if 240<=x then x - 240 else if 224<=x then x - 224 else if 192<=x then x - 192 else x
def acc:List UInt8->Nat
|[]=>0
|x::r=>r.foldl (fun c y=>c*64+y.toNat % 64) (Vh x.toNat)
theorem dM{l:List UInt8}(h:l≠[])(y:UInt8):acc (l++[y])=acc l*64+y.toNat % 64:=by
 cases l with
|nil=>exact absurd rfl h
|cons x r=>simp[acc]
theorem Sk:∀(r:List UInt8) (c d:Nat),FZ c r=some d->d=r.foldl (λc y=>c*64+y.toNat % 64) c
|[],c,d,h=>by simp[FZ] at h;simp[h]
|y::r,c,d,h=>by
  rw[FZ]at h
  split at h
  . rw[Qk];exact Sk r _ d h
  . cases h
theorem WJ{x n c:Nat}(hx:x<256)(h:first x=(n,c))(hn:1<=n):Vh x=c:=by
 unfold first at h
 unfold Vh
 by_cases q1:x<128
 . rw[if_pos q1]at h;cases h
   rw[if_neg q_o,if_neg q_o,if_neg q_o]
 . rw[if_neg q1]at h
   by_cases q2:192<=x/\x<224
   . rw[if_pos q2]at h;cases h
     rw[if_neg q_o,if_neg q_o,if_pos q_o];omega
   . rw[if_neg q2]at h
     by_cases q3:224<=x/\x<240
     . rw[if_pos q3]at h;cases h
       rw[if_neg q_o,if_pos q_o];omega
     . rw[if_neg q3]at h
       by_cases q4:240<=x/\x<248
       . rw[if_pos q4]at h;cases h
         rw[if_pos q_o];omega
       . rw[if_neg q4]at h;cases h;omega
theorem gO{l:List UInt8}{c n:Nat}(h:Ie l=some (c,n)):acc (l.take n)=c:=by
 have hl:=MO h
 cases l with
|nil=>cases h
|cons x r =>
  rw[Ie]at h
  obtain⟨fn,fc,hf⟩:∃fn fc,first x.toNat=(fn,fc):=⟨_,_,rfl⟩
  rw[hf]at h
  dsimp only at h
  split at h
  . cases h
  . cases hco:FZ fc (r.take (fn - 1))with
    | none=>rw[hco]at h;cases h
    | some d =>
     rw[hco]at h
     dsimp only at h
     split at h
     . cases h
       obtain⟨m,rfl⟩:∃m,n=m+1:=⟨n - 1,by omega⟩
       rw[Eg,acc,WJ x.toNat_lt hf q_o,Sk _ _ _ hco]
       rfl
     . cases h
theorem fj{l:List UInt8}{n:Nat}(hn:1<=n)(hl:n<=l.length)(h:put (acc (l.take n):Int)=l.take n):Ie l=some (acc (l.take n),n):=by
 have hne:(l.take n).length=n:=by rw[AQ];omega
 have hc:FT (acc (l.take n):Int)=true:=by
  by_cases q:FT (acc (l.take n):Int)=true
  . exact q
  . rw[put,if_neg q]at h
    rw[<-h]at hne
    simp at hne;omega
 have hN:GK (acc (l.take n))=true:=by simpa [FT]using hc
 rw[put,if_pos hc,BR]at h
 have hlong:EZ (acc (l.take n))=n:=by rw[<-Pg,h,hne]
 have:=WP hN (l.drop n)
 rw[hlong,h,Bv]at this
 exact this
theorem bQ{l:List UInt8}{c n:Nat}(h:Ie l=some (c,n)):put (acc (l.take n):Int)=l.take n:=by
 rw[gO h,cV h,put]
 obtain⟨hc, -, -⟩:=LZ h
 simp[FT,hc]
theorem bP{l:List UInt8}(h:∀n,1<=n->n<=4->n<=l.length->put (acc (l.take n):Int)≠l.take n):Ie l=none:=by
 cases hg:Ie l with
|none=>rfl
|some q =>
  obtain⟨c,n⟩:=q
  obtain⟨h1,h2,h3⟩:=MO hg
  exact absurd (bQ hg) (h n h1 h2 h3)
theorem dN:∀(r:List UInt8) (c:Nat),r.foldl (λc y=>c*64+y.toNat % 64) c<(c+1)*64 ^ r.length
|[],c=>by simp
|y::r,c=>by
  rw[Qk,An]
  have h:=dN r (c*64+y.toNat % 64)
  have h2:(c*64+y.toNat % 64+1)*64 ^ r.length<=((c+1)*64)*64 ^ r.length:=CM _ q_o
  rw[Qe]
  calc _<_:=h
   _<=_:=h2
   _=_:=by rw[Nat.mul_assoc,Qg 64]
theorem aB{l:List UInt8}(h:l.length<=4):acc l<67108864:=by
 cases l with
|nil=>simp[acc]
|cons x r =>
  have h1:=dN r (Vh x.toNat)
  have h2:Vh x.toNat+1<=256:=by
   have:=x.toNat_lt
   unfold Vh
   (repeat' split)<;>omega
  have h3:64 ^ r.length<=64 ^ 3:=DW (by decide) (by simp at h;omega)
  have h4:=Nat.mul_le_mul h2 h3
  rw[acc];omega
end UtfL
section
attribute [local push_cast] Br Bl
open Go.RowKit UtfL
theorem eD{P:Program}{f:FuncId}{o:Own}{es:List (List D)}{ds:List D}{st:St}{R:D->St->Prop}(h:es.length<=maxLen->TrF P f (.sl o es::ds) st R):TrF P f (.sl o es::ds) st R:=λvs w hv hw=>by
 have hl:es.length<=maxLen:=by
  obtain⟨u,t, -,h1, -⟩:=hv.inv_cons
  cases h1 with
  | sl _ _ a cap us sz h1 h2=>exact Cp h1 h2
 exact h hl vs w hv hw
theorem jp(o o':Own)(a b:List UInt8)(st:St):TrF prog 210 [.sl o (a.map Br),.sl o' (b.map Br)] st λd st'=>d=.b (decide (a=b))/\st'=st:=by
 refine eD λhl=>?_
 unfold maxLen at hl
 have hma:(a.map Br).length=a.length:=Ab ..
 have hmb:(b.map Br).length=b.length:=Ab ..
 have hca:Hid (∀(i:Nat) (x:UInt8),a[i]?=some x->(a.map Br)[i]?=some [.y x]):=λi x h=>by rw[Aq,h];rfl
 have hcb:Hid (∀(i:Nat) (x:UInt8),b[i]?=some x->(b.map Br)[i]?=some [.y x]):=λi x h=>by rw[Aq,h];rfl
 obtain⟨q,hq⟩:∃q,decide (a=b)=q:=⟨_,rfl⟩
 rw[hq]
 have HQ:=Aa hq
 clear hq
 rw[hma]at hl
 generalize a.map Br=AC at *
 generalize b.map Br=BC at *
 by_cases hlen:a.length=b.length
 rotate_left
 . obtain rfl:q=false:=by rw[<-HQ.out];exact decide_eq_false λh=>hlen (by rw[h])
   have h2:((a.length:Int) != b.length)=true:=by rw[bne_iff_ne];omega
   clear HQ
   refine Qin [4] func210 results210 ntmps210 ?_
   exact WRa
 have h2:((a.length:Int) != b.length)=false:=by rw[bne_eq_false_iff_eq];omega
 replace hlen:=Aa hlen
 refine Qin [4] func210 results210 ntmps210 ?_
 repeat' (first|refine QX ?_|(refine QB ?_;intro b)|refine QP ?_;intro o' ho'|(with_reducible refine QZ ?_<;>(try constructor)<;>intro hb<;>try intro hb1)|fail)
 refine Bs (ι:=Nat) (λi A st'=>i<=a.length/\Hid (a.take i=b.take i)/\A.df=[]/\A.e 0=.sl o AC/\A.e 1=.sl o' BC/\A.e 5=.i i/\st=st') (λi=>a.length - i) 0 ⟨Ao _,rfl,Qf,Qf,Qf,Qf,rfl⟩ ?_
 rintro i A st' ⟨hi,HT,hdf,e0,e1,e5,rfl⟩
 by_cases hlt:i<a.length
 . have hlb:i<b.length:=by have:=hlen.out;omega
   obtain⟨x,hx⟩:=gEx hlt
   obtain⟨y,hy⟩:=gEx hlb
   have g1:=hca.out i x hx
   have g2:=hcb.out i y hy
   unfold D.y at g1 g2
   by_cases hxy:x=y
   . have HN:Hid (a.take (i+1)=b.take (i+1)):=Aa (by rw[Bk,Bk,HT.out,hx,hy,hxy])
     have h3:((x.toNat:Int) != y.toNat)=false:=by rw[bne_eq_false_iff_eq,hxy]
     clear HQ HT hx hy hca hcb hxy
     repeat' (first|refine QV ?_|((with_reducible refine QW ?_);intro hne;simp only[nes,ne1,and_assoc]at hne;repeat(have hq:=hne.1;replace hne:=hne.2))|refine QY ?_|(refine QB ?_;intro b)|refine QP ?_;intro o' ho'|(with_reducible refine QZ ?_<;>(try constructor)<;>intro hb<;>try intro hb1)|fail)
     refine⟨i+1,st,q_u,⟨hlt,HN,?_,?_,?_,?_,rfl⟩,by omega⟩
     all_goals exact Qf
   . have h3 : ((x.toNat : Int) != y.toNat) = true := by
      rw[bne_iff_ne]
      exactλh=>hxy (gU.1 q_o)
     obtain rfl:q=false:=by
      rw[<-HQ.out]
      exact decide_eq_false λh=>hxy (by rw[h,hy]at hx;exact(Cl hx).symm)
     clear HQ HT hx hy hca hcb hxy
     repeat' (first|refine QV ?_|((with_reducible refine QW ?_);intro hne;simp only[nes,ne1,and_assoc]at hne;repeat(have hq:=hne.1;replace hne:=hne.2))|refine QY ?_|(refine QB ?_;intro b)|refine QP ?_;intro o' ho'|(with_reducible refine QZ ?_<;>(try constructor)<;>intro hb<;>try intro hb1)|fail)
     all_goals exact BZ
 . obtain rfl : q = true := by
    rw[<-HQ.out]
    refine decide_eq_true ?_
    have:=HT.out
    rwa[Bj q_o,Bj (by have:=hlen.out;omega)]at this
   clear HQ HT hca hcb
   exact WRa
theorem bS(c:Int)(st:St):TrF prog 213 [.i c] st λd st'=>d=.b (FT c)/\st'=st:=by
 have hc:FT c=decide ((0<=c/\c<55296)\/(57343<c/\c<=1114111)):=by
  unfold FT GK
  rw[<-Bool.decide_and]
  congr 1
  apply propext
  omega
 have H:c<0\/(0<=c/\c<55296)\/(55296<=c/\c<=57343)\/(57343<c/\c<=1114111)\/1114111<c:=by omega
 obtain⟨q,hq⟩:∃q,FT c=q:=⟨_,rfl⟩
 rw[hq]at hc |-
 clear hq
 rcases H with h|⟨h1,h2⟩|⟨h1,h2⟩|⟨h1,h2⟩|h
 all_goals(
  first|replace hc:=hc.trans (decide_eq_false q_o)|replace hc:=hc.trans (decide_eq_true q_o)
  subst hc
  first|have d1:=decide_eq_false (show¬57343<c by omega)|have d1:=decide_eq_true (show 57343<c by omega)
  first|have d2:=decide_eq_false (show¬c<55296 by omega)|have d2:=decide_eq_true (show c<55296 by omega)
  first|have d3:=decide_eq_false (show¬c<=1114111 by omega)|have d3:=decide_eq_true (show c<=1114111 by omega)
  refine Qin [2] func213 results213 ntmps213 ?_
  exact WR)
theorem Wm(c:Int)(st:St):TrF prog 211 [.i c] st λd st'=>d=.sl .shared ((put c).map Br)/\st'=st:=by
 have hC:=bS c
 cases hq:FT c with
|false =>
  rw[hq]at hC
  have hp:put c=[]:=by rw[put,hq];rfl
  rw[hp]
  replace hC:=Aa hC
  clear hp hq
  refine Qin [2] func211 results211 ntmps211 ?_
  exact WR
|true =>
  rw[hq]at hC
  have h0:0<=c/\c<=1114111:=by
   simp only[FT,GK,AF,decide_eq_true_eq]at hq
   omega
  obtain⟨c,rfl⟩:=DZ h0.1
  have hmax:c<=1114111:=by omega
  have hp:put (c:Int)=Hb c:=by simp[put,hq]
  rw[hp]
  replace hC:=Aa hC
  have hw:∀n:Nat,n<256->Hid (Br (u n)=[.s (.int .u8 n)]):=λn h=>Aa (by unfold Br D.y;rw[Gp h])
  have hU:Hid (∀n:Nat,n<256->Br (u n)=[.s (.int .u8 n)]):=Aa λn h=>(hw n h).out
  have q1:(c:Int).tdiv 64=(c:Int) / 64:=Mi q_o
  have q2:(c:Int).tdiv 4096=(c:Int) / 4096:=Mi q_o
  have q3:(c:Int).tdiv 262144=(c:Int) / 262144:=Mi q_o
  have q4:(c:Int).tmod 64=(c:Int) % 64:=Hi q_o
  have q5:((c:Int) / 64).tmod 64=(c:Int) / 64 % 64:=Hi q_o
  have q6:((c:Int) / 4096).tmod 64=(c:Int) / 4096 % 64:=Hi q_o
  clear hp hq hw h0
  by_cases c1:c<128
  . have e:(Hb c).map Br=[[.s (.int .u8 c)]]:=by rw[Hb,if_pos c1,Au,BH,hU.out c q_o]
    rw[e]
    clear e hU
    refine Qin [2] func211 results211 ntmps211 ?_
    exact WR
  by_cases c2:c<2048
  . have e : (Hb c).map Br = [[.s (.int .u8 (192 + (c : Int) / 64))], [.s (.int .u8 (128 + (c : Int) % 64))]] := by
     rw[Hb,if_neg c1,if_pos c2,Au,Au,BH,hU.out (192+c / 64) q_o,hU.out (128+c % 64) q_o];rfl
    rw[e]
    clear e hU
    refine Qin [2] func211 results211 ntmps211 ?_
    exact WR
  by_cases c3:c<65536
  . have e : (Hb c).map Br = [[.s (.int .u8 (224 + (c : Int) / 4096))], [.s (.int .u8 (128 + (c : Int) / 64 % 64))], [.s (.int .u8 (128 + (c : Int) % 64))]] := by
     rw[Hb,if_neg c1,if_neg c2,if_pos c3,Au,Au,Au,BH,hU.out (224+c / 4096) q_o,hU.out (128+c / 64 % 64) q_o,hU.out (128+c % 64) q_o];rfl
    rw[e]
    clear e hU
    refine Qin [2] func211 results211 ntmps211 ?_
    exact WR
  . have e : (Hb c).map Br = [[.s (.int .u8 (240 + (c : Int) / 262144))], [.s (.int .u8 (128 + (c : Int) / 4096 % 64))], [.s (.int .u8 (128 + (c : Int) / 64 % 64))], [.s (.int .u8 (128 + (c : Int) % 64))]] := by
     rw[Hb,if_neg c1,if_neg c2,if_neg c3,Au,Au,Au,Au,BH,hU.out (240+c / 262144) q_o,hU.out (128+c / 4096 % 64) q_o,hU.out (128+c / 64 % 64) q_o,hU.out (128+c % 64) q_o];rfl
    rw[e]
    clear e hU
    refine Qin [2] func211 results211 ntmps211 ?_
    exact WR
end
section
attribute [local push_cast] RV Ol Bl Br
open Go.RowKit UtfL
namespace UtfL
theorem eE{b:List UInt8}{k j:Nat}:((b.map Br).drop k).take j=((b.drop k).take j).map Br:=by
 rw[NU,lI]
end UtfL
theorem Wn(o:Own)(b:List UInt8)(hb:b.length<=4611686018427387904)(at_:Int)(st:St):TrF prog 206 [.sl o (b.map Br),.i at_] st λd st'=>d=RV (Jk b at_)/\st'=st:=by
 have hm:(b.map Br).length=b.length:=Ab ..
 have hc:Hid (∀(i:Nat) (x:UInt8),b[i]?=some x->(b.map Br)[i]?=some [.y x]):=λi x h=>by rw[Aq,h];rfl
 by_cases hin:0<=at_/\at_<b.length
 case neg =>
  have hR:Jk b at_=none:=if_neg hin
  rw[hR]
  clear hc hR
  generalize b.map Br=LB at *
  by_cases q:at_<0
  . refine Qin [4,5,6] func206 results206 ntmps206 ?_
    exact WRa
  . have q2:(b.length:Int)<=at_:=by omega
    refine Qin [4,5,6] func206 results206 ntmps206 ?_
    exact WRa
 case pos =>
 obtain⟨g1,g2⟩:=hin
 obtain⟨k,rfl⟩:=DZ g1
 have hk:k<b.length:=by omega
 obtain⟨R,hR⟩:∃R,Jk b (k:Int)=R:=⟨_,rfl⟩
 rw[hR]
 rw[Px q_o]at hR
 have hR2:=Aa hR
 have hdl:(b.drop k).length=b.length - k:=AO
 have hPt:=Aa λ(j:Nat)=>Wm (acc ((b.drop k).take j):Nat)
 have hBy:=Aa λ(j:Nat)=>jp .shared .shared (put (acc ((b.drop k).take j):Nat)) ((b.drop k).take j)
 have hsl:Hid (∀j:Nat,((b.map Br).drop k).take j=((b.drop k).take j).map Br):=Aa λj=>eE
 have hall:((b.map Br).all λe=>e.length == 1)=true:=by
  rw[AU]
  intro e he
  obtain⟨x, -,rfl⟩:=Av.1 he
  rfl
 have hgd:Hid (∀(j:Nat) (x:UInt8),b[k+j]?=some x->(b.drop k).take (j+1)=(b.drop k).take j++[x]):=Aa λj x h=>by
  rw[Bk,Fv,h,Bw]
 have hRn:Hid ((∀n,1<=n->n<=4->n<=(b.drop k).length->put (acc ((b.drop k).take n):Int)≠(b.drop k).take n)->R=none):=Aa λh=>by rw[<-hR];exact bP h
 have hRh:Hid (∀n,1<=n->n<=(b.drop k).length->put (acc ((b.drop k).take n):Int)=(b.drop k).take n->R=some (acc ((b.drop k).take n),n)):=Aa λn h1 h2 h3=>by rw[<-hR];exact fj h1 h2 h3
 have hab:Hid (∀n,n<=4->acc ((b.drop k).take n)<67108864):=Aa λn h=>aB (by rw[AQ];omega)
 have hsn:Hid (∀(j:Nat) (x:UInt8),0<j->j<=(b.drop k).length->acc ((b.drop k).take j++[x])=acc ((b.drop k).take j)*64+x.toNat % 64):=Aa λj x h h2=>dM (λe=>by have:=congrArg List.length e;rw[AQ]at this;simp at this;omega) x
 rw[hdl]at hRn hRh hsn
 clear hR hR2 hdl
 generalize b.map Br=LB at *
 generalize b.drop k=C at *
 refine Qin [4,5,6] func206 results206 ntmps206 ?_
 repeat' (first|refine QX ?_|(refine QB ?_;intro b)|refine QP ?_;intro o' ho'|(with_reducible refine QZ ?_<;>(try constructor)<;>intro hb<;>try intro hb1)|fail)
 refine Bs (ι:=Nat) (λj A st'=>j<=4/\k+j<=b.length/\A.df=[]/\A.e 0=.sl o LB/\A.e 1=.i k/\A.e 7=.i (acc (C.take j):Nat)/\A.e 8=.i ((j:Int)+1)/\Hid (∀i,1<=i->i<=j->put (acc (C.take i):Int)≠C.take i)/\st=st') (λj=>5 - j) 0 ⟨by omega,by omega,Qf,Qf,Qf,Qf,Qf,Aa λi h1 h2=>by omega,rfl⟩ ?_
 rintro j A st' ⟨hj4,hjl,hdf,e0,e1,e7,e8,hno,rfl⟩
 by_cases hlt:j<4/\k+j<b.length
 case neg =>
  have hr0:R=none:=hRn.out λn h1 h2 h3=>hno.out n h1 q_o
  subst hr0
  clear hPt hBy hsl hgd hRn hRh hab hsn hno hc
  have h4:¬((j:Int)+1<=4)\/((j:Int)+1<=4/\¬((j:Int)+1<=(b.length:Int) - k)):=by omega
  rcases h4 with h4|⟨h4,h5⟩
  . repeat' (first|refine QX ?_|(refine QB ?_;intro b)|refine QP ?_;intro o' ho'|(with_reducible refine QZ ?_<;>(try constructor)<;>intro hb<;>try intro hb1)|fail)
    all_goals exact BZ
  . repeat' (first|refine QX ?_|(refine QB ?_;intro b)|refine QP ?_;intro o' ho'|(with_reducible refine QZ ?_<;>(try constructor)<;>intro hb<;>try intro hb1)|fail)
    all_goals exact BZ
 case pos =>
 obtain⟨hl4,hlb⟩:=hlt
 obtain⟨x,hx⟩:∃x,b[k+j]?=some x:=⟨_,Al hlb⟩
 have g1:=hc.out (k+j) x hx
 unfold D.y at g1
 have hT:=hgd.out j x hx
 have hX:x.toNat<256:=x.toNat_lt
 have hA1:=hab.out (j+1) q_o
 have hA0:=hab.out j q_o
 have hval:(j=0/\acc (C.take (j+1))=Vh x.toNat)\/(0<j/\acc (C.take (j+1))=acc (C.take j)*64+x.toNat % 64):=by
  rcases Me j with h|h
  . subst h
    exact .inl ⟨rfl,by rw[hT,CX];rfl⟩
  . exact .inr ⟨h,by rw[hT];exact hsn.out j x h q_o⟩
 have hP:=hPt.out (j+1)
 have hB:=hBy.out (j+1)
 have hS:=hsl.out (j+1)
 have hHit:=hRh.out (j+1) q_o q_o
 have hMs:put (acc (C.take (j+1)):Int)≠C.take (j+1)->Hid (∀i,1<=i->i<=j+1->put (acc (C.take i):Int)≠C.take i):=λh=>Aa λi h1 h2=>by
  by_cases e:i=j+1
  . rw[e];exact h
  . exact hno.out i h1 q_o
 have i1:(k:Int)+((j:Int)+1) - 1=(k:Int)+j:=by omega
 have i2:((k:Int)+j).toNat=k+j:=by omega
 have i3:((k:Int)+((j:Int)+1)).toNat=k+(j+1):=by omega
 have i4:(k:Int)<=(k:Int)+((j:Int)+1):=by omega
 have i5:(k:Int)+((j:Int)+1)<=b.length:=by omega
 have i6:(x.toNat:Int).tmod 64=(x.toNat:Int) % 64:=Hi q_o
 clear hPt hBy hsl hgd hRn hRh hab hsn hno hc hx hT
 have hTa:Hid (∃a:Nat,acc (C.take (j+1))=a):=Aa ⟨_,rfl⟩
 obtain⟨a,ha⟩:=hTa.out
 rw[ha]at hP hB hHit hMs hval hA1
 clear hTa
 have hT2:∃T,C.take (j+1)=T:=⟨_,rfl⟩
 obtain⟨T,hT2⟩:=hT2
 rw[hT2]at hS hHit hB hMs
 replace ha:=Aa ha
 clear hT2
 generalize acc (C.take j)=a0 at *
 generalize x.toNat=X at *
 have hform:(((j:Int)+1 == 1)=true/\((240<=X/\(X:Int) - 240=a)\/(¬240<=X/\224<=X/\(X:Int) - 224=a)\/(¬240<=X/\¬224<=X/\192<=X/\(X:Int) - 192=a)\/(¬240<=X/\¬224<=X/\¬192<=X/\(X:Int)=a)))\/(((j:Int)+1 == 1)=false/\(a0:Int)*64+(X:Int) % 64=a):=by
  rcases hval with⟨h1,h2⟩|⟨h1,h2⟩
  . refine .inl ⟨by rw[beq_iff_eq];omega,?_⟩
    unfold Vh at h2
    (repeat' split at h2)<;>omega
  . exact .inr ⟨by rw[beq_eq_false_iff_ne];omega,by omega⟩
 clear hval
 obtain⟨q,hq⟩:∃q,decide (put (a:Int)=T)=q:=⟨_,rfl⟩
 rw[hq]at hB
 generalize (put (a:Int)).map Br=PB at *
 replace hP:=Aa hP
 replace hB:=Aa hB
 cases q with
|true =>
  obtain rfl:=hHit (of_decide_eq_true hq)
  clear hHit hMs hq
  rcases hform with⟨hj0,⟨q1,hf⟩|⟨q1,q2,hf⟩|⟨q1,q2,q3,hf⟩|⟨q1,q2,q3,hf⟩⟩|⟨hj0,hf⟩
  all_goals(
   repeat' (first|refine QV ?_|((with_reducible refine QW ?_);intro hne;simp only[nes,ne1,and_assoc]at hne;repeat(have hq:=hne.1;replace hne:=hne.2))|refine QY ?_|(refine QB ?_;intro b)|refine QP ?_;intro o' ho'|(with_reducible refine QZ ?_<;>(try constructor)<;>intro hb<;>try intro hb1)|fail)
   all_goals exact BZ)
|false =>
  have hM:=hMs (of_decide_eq_false hq)
  clear hHit hMs hq
  rcases hform with⟨hj0,⟨q1,hf⟩|⟨q1,q2,hf⟩|⟨q1,q2,q3,hf⟩|⟨q1,q2,q3,hf⟩⟩|⟨hj0,hf⟩
  all_goals(
   repeat' (first|refine QV ?_|((with_reducible refine QW ?_);intro hne;simp only[nes,ne1,and_assoc]at hne;repeat(have hq:=hne.1;replace hne:=hne.2))|refine QY ?_|(refine QB ?_;intro b)|refine QP ?_;intro o' ho'|(with_reducible refine QZ ?_<;>(try constructor)<;>intro hb<;>try intro hb1)|fail)
   refine⟨j+1,st,q_u,⟨by omega,by omega,?_,?_,?_,by rw[ha.out];exact Qf,?_,hM,rfl⟩,by omega⟩
   all_goals exact Qf)
end
section
attribute [local push_cast] RV Ol Bl Br
open Go.RowKit UtfL
theorem Zm(s:ByteArray)(hs:s.size<=1000000)(st:St):TrF prog 191 [.str s] st λd st'=>d=.tup [.sl .shared ((Gs s.data.toList).map Ol),.i (Kp s.data.toList:Nat)]/\st'=st:=by
 refine QN (ts:=[2,3]) func191 rfl (by rw[ntmps191];exact BD rfl) (λtmps w=>by simp[results,results191,go_sem,Jp]) ?_
 simp only[ntmps191]
 have hG:=Aa (Wn .shared s.data.toList (by simp;omega))
 have hl:s.data.toList.length=s.size:=by simp
 generalize hb:s.data.toList=b at *
 repeat' (first|refine QX ?_|(refine QB ?_;intro b)|refine QP ?_;intro o' ho'|(with_reducible refine QZ ?_<;>(try constructor)<;>intro hb<;>try intro hb1)|fail)
 refine GF 3 1 0 ?_
 refine DN (ι:=Nat×List (Nat×Nat)) (λi A st'=>∃o',o'≠.shared/\UtfL.At b i.2 i.1/\A.df=[]/\A.e 0=.str s/\A.e 4=.sl o' ((i.2.map (·.2)).map Ol)/\A.e 5=.i i.1/\st'=.room o' 3 1 ((i.2.map (·.2)).map Ol).length::st) (λi=>b.length - i.1) (0,[]) ⟨.tight,by simp,At.start b,rfl,rfl,rfl,rfl,rfl⟩ ?_
 rintro⟨p,pre⟩ A st' ⟨o',ho,hat,hdf,h0,h4,h5,rfl⟩
 dsimp only at hat h4 h5 |-
 have hp:=hat.1
 have hpl:pre.length<=1000000:=by
  have h1:=congrArg List.length hat.2.1
  have h2:=(Mw b.length 0 b (Ap _)).1
  rw[Ad]at h1
  omega
 have HAT:=Aa hat
 clear hat
 by_cases hlt:p<s.size
 . cases hg:Jk b (p:Int)with
   | none =>
    have hco:Gs b=pre.map (·.2):=by rw[Gs,HAT.out.done hg]
    have hen:Kp b=p:=by rw[Kp,HAT.out.done hg,HAT.out.2.2]
    repeat' (first|refine QX ?_|(refine QB ?_;intro b)|refine QP ?_;intro o' ho'|(with_reducible refine QZ ?_<;>(try constructor)<;>intro hb<;>try intro hb1)|refine Qc call206 ((hG.out p _)) ?_|fail)
    exact BZ
   | some q =>
    obtain⟨c,n⟩:=q
    obtain⟨hat2,hn1,hn2⟩:=HAT.out.next hg
    have hp2:=hat2.1
    have HA:=Aa hat2
    clear hat2
    repeat' (first|refine QX ?_|(refine QB ?_;intro b)|refine QP ?_;intro o' ho'|(with_reducible refine QZ ?_<;>(try constructor)<;>intro hb<;>try intro hb1)|refine Qc call206 ((hG.out p _)) ?_|fail)
    refine⟨(p+n,pre++[(p+n,c)]),⟨o',ho',HA.out,hdf,?_,?_,?_,?_⟩,?_⟩
    all_goals exact Qf
 . obtain ⟨hco, hen⟩ : Gs b = pre.map (·.2) /\ Kp b = p := by
    have e:p=b.length:=by omega
    exact⟨by rw[Gs,UtfL.At.full (e▸HAT.out)],by rw[Kp,UtfL.At.full (e▸HAT.out),HAT.out.2.2]⟩
   repeat' (first|refine QX ?_|(refine QB ?_;intro b)|refine QP ?_;intro o' ho'|(with_reducible refine QZ ?_<;>(try constructor)<;>intro hb<;>try intro hb1)|refine Qc call206 ((hG.out p _)) ?_|fail)
   exact BZ
theorem Tc(s:ByteArray)(hs:s.size<=1000000)(st:St):TrF prog 161 [.str s] st λd st'=>d=.b (decide (0<=Ip s.data.toList))/\st'=st:=by
 have hle:=Mw s.data.toList.length 0 s.data.toList (Ap _)
 have hsz:s.data.toList.length=s.size:=by simp
 have he:Kp s.data.toList<=s.data.toList.length:=by
  have:=hle.2.2
  rw[Kp];omega
 have hc:decide (0<=Ip s.data.toList)=decide ((Kp s.data.toList:Int)=s.size):=by
  rw[decide_eq_decide,Ip]
  split<;>omega
 rw[hc]
 refine Qin [2] func161 results161 ntmps161 ?_
 repeat' (first|refine QX ?_|refine QB ?_;intro b|with_reducible refine QZ ?_<;>(try constructor)<;>intro hb<;>try intro hb1|refine Qc call191 (Zm s hs _) ?_|fail)
 all_goals exact BZ
end
section
attribute [local push_cast] Br Bl V.cells_mk V.cells_take V.cells_len Jr
namespace V
def LU (l:List UInt8):Bool:=decide (0<=Ip l)
def sgl (k n:Int)(s:ByteArray)(len:Nat):Bool :=
 if k=0 then(n == 0) && decide (s.size=0)
 else if k=1 then((n == 0) || (n == 1)) && decide (s.size=0)
 else if k=2 then decide (s.size=0)
 else if k=3 then(n == 0) && isName s.data.toList
 else if k=4 then(n == 0) && (decide (s.size<=200) && LU s.data.toList)
 else if k=5 then(n == 0) && (decide (s.size=0) && decide (len<=20))
 else false
end V
open V in
theorem Wa(k n:Int)(s:ByteArray)(l:List V)(st:St):TrF prog 208 [.agg [.i k,.i n,.str s,.sl .shared (l.map V.cells)]] st λx st'=>x=.b (sgl k n s l.length)/\st'=st:=by
 obtain⟨nm,hnm⟩:∃nm,isName s.data.toList=nm:=⟨_,rfl⟩
 obtain⟨vd,hvd⟩:∃vd,LU s.data.toList=vd:=⟨_,rfl⟩
 have hN:=II s
 have hV:=λh=>YF s h
 rw[LU]at hvd
 rw[hnm]at hN
 rw[hvd]at hV
 have hS:Hid (∀b,sgl k n s l.length=b->sgl k n s l.length=b):=λb h=>h
 have hE:sgl k n s l.length=(if k=0 then(n == 0) && decide (s.size=0)
 else if k=1 then((n == 0) || (n == 1)) && decide (s.size=0)
 else if k=2 then decide (s.size=0)
 else if k=3 then(n == 0) && nm
 else if k=4 then(n == 0) && (decide (s.size<=200) && vd)
 else if k=5 then(n == 0) && (decide (s.size=0) && decide (l.length<=20))
 else false):=by rw[<-hnm,<-hvd];rfl
 rw[hE]
 clear hE hS hnm hvd
 have hN:=Aa hN
 have hV:=Aa hV
 refine Qin [2] func208 results208 ntmps208 ?_
 by_cases k0:k=0
 . subst k0
   repeat' (first|refine QX ?_|refine QB ?_;intro b|with_reducible refine QZ ?_<;>(try constructor)<;>intro hb<;>try intro hb1|fail)
   all_goals(refine BZ (hd:=?_);(try simp(disch:=omega) only[push_cast,simprocAttr, *]);try(first|exact q_e|refine LE.of_eq ?_))
   all_goals simp_all
   all_goals(try(intros;first|omega|(exfalso;omega)))
 by_cases k1:k=1
 . subst k1
   repeat' (first|refine QX ?_|refine QB ?_;intro b|with_reducible refine QZ ?_<;>(try constructor)<;>intro hb<;>try intro hb1|fail)
   all_goals(refine BZ (hd:=?_);(try simp(disch:=omega) only[push_cast,simprocAttr, *]);try(first|exact q_e|refine LE.of_eq ?_))
   all_goals simp_all
   all_goals(try(intros;first|omega|(exfalso;omega)))
 by_cases k2:k=2
 . subst k2
   repeat' (first|refine QX ?_|refine QB ?_;intro b|with_reducible refine QZ ?_<;>(try constructor)<;>intro hb<;>try intro hb1|fail)
   all_goals(refine BZ (hd:=?_);(try simp(disch:=omega) only[push_cast,simprocAttr, *]);try(first|exact q_e|refine LE.of_eq ?_))
   all_goals simp_all
   all_goals(try(intros;first|omega|(exfalso;omega)))
 by_cases k3:k=3
 . subst k3
   repeat' (first|refine QX ?_|refine QB ?_;intro b|with_reducible refine QZ ?_<;>(try constructor)<;>intro hb<;>try intro hb1|fail)
   all_goals(refine BZ (hd:=?_);(try simp(disch:=omega) only[push_cast,simprocAttr, *]);try(first|exact q_e|refine LE.of_eq ?_))
   all_goals simp_all
   all_goals(try(intros;first|omega|(exfalso;omega)))
 by_cases k4:k=4
 . subst k4
   repeat' (first|refine QX ?_|refine QB ?_;intro b|with_reducible refine QZ ?_<;>(try constructor)<;>intro hb<;>try intro hb1|refine Qc call212 (hV.out q_o _) ?_|fail)
   all_goals(refine BZ (hd:=?_);(try simp(disch:=omega) only[push_cast,simprocAttr, *]);try(first|exact q_e|refine LE.of_eq ?_))
   all_goals simp_all
   all_goals(try(intros;first|omega|(exfalso;omega)))
 by_cases k5:k=5
 . subst k5
   repeat' (first|refine QX ?_|refine QB ?_;intro b|with_reducible refine QZ ?_<;>(try constructor)<;>intro hb<;>try intro hb1|fail)
   all_goals(refine BZ (hd:=?_);(try simp(disch:=omega) only[push_cast,simprocAttr, *]);try(first|exact q_e|refine LE.of_eq ?_))
   all_goals simp_all
   all_goals(try(intros;first|omega|(exfalso;omega)))
 have a0:(k == 0)=false:=by simpa using k0
 have a1:(k == 1)=false:=by simpa using k1
 have a2:(k == 2)=false:=by simpa using k2
 have a3:(k == 3)=false:=by simpa using k3
 have a4:(k == 4)=false:=by simpa using k4
 have a5:(k == 5)=false:=by simpa using k5
 clear hN hV
 exact WR
end
section
attribute [local push_cast] Br Bl V.cells_mk V.cells_take V.cells_len Jr
namespace V
mutual
def parts:V->Bool
|.mk k n s l=>sgl k n s l.length && (decide (k=5) || decide (l.length=0)) && Gc l
def Gc:List V->Bool
|[]=>true
|x::l=>x.parts && Gc l
end
theorem Pi:∀l:List V,Gc l=l.all parts
|[]=>rfl
|x::l=>by rw[Gc,Kq,Pi l]
end V
open V in
theorem QJ:∀(N:Nat) (v:V),v.nodes<=N->∀st,TrF prog 200 [.agg v.cells] st λx st'=>x=.b v.parts/\st'=st
|0,v,h=>by have:=v.nodes_pos;omega
|N+1,.mk k n s l,hN=>by
  intro st
  have IH:=Aa λx (hx:x∈l)=>QJ N x (by have:=FO (k:=k) (n:=n) (s:=s) hx;omega)
  rw[V.cells_mk,show(V.mk k n s l).parts=(sgl k n s l.length && (decide (k=5) || decide (l.length=0)) && Gc l)from parts.eq_1 ..]
  clear hN
  have hS:=Aa (Wa k n s l)
  have h20:sgl k n s l.length=true->k=5->l.length<=20:=λh hk=>by
   subst hk
   simp[sgl]at h
   omega
  obtain⟨B,hB⟩:∃B,sgl k n s l.length=B:=⟨_,rfl⟩
  rw[hB]at hS h20 |-
  clear hB
  obtain⟨L,hL⟩:∃L,Gc l=L:=⟨_,rfl⟩
  have HL:Hid (Gc (l.drop 0)=L):=hL
  rw[hL]
  clear hL
  refine Qin [2] func200 results200 ntmps200 ?_
  by_cases hb0:B=false
  . subst hb0
    clear h20
    rw[Aw,Aw]
    exact WR
  obtain rfl:B=true:=by simpa using hb0
  clear hb0
  rw[AH]
  have h20:=Aa h20
  by_cases hk:k≠5/\0<l.length
  . rw[decide_eq_false hk.1,decide_eq_false (show¬l.length=0 by omega),aJ,Aw]
    obtain⟨hk,h0⟩:=hk
    have h0':(0:Int)<l.length:=by omega
    have hk':(k == 5)=false:=by simpa using hk
    exact WR
  rw[show(decide (k=5) || decide (l.length=0))=true by rw[Co,decide_eq_true_eq,decide_eq_true_eq];omega,AH]
  have hk:k=5\/(l.length:Int)=0:=by omega
  have hlen:l.length<=20:=by
   rcases hk with h|h
   . exact h20.out rfl h
   . omega
  clear h20
  repeat' (first|refine QX ?_|refine QB ?_;intro b|with_reducible refine QZ ?_<;>(try constructor)<;>intro hb<;>try intro hb1|fail)
  all_goals
   refine Bs (ι:=Nat) (λi A st'=>i<=l.length/\Hid (Gc (l.drop i)=L)/\A.df=[]/\A.e 20=.sl .shared (l.map V.cells)/\A.e 21=.i l.length/\A.e 22=.i i/\st'=st) (λi=>l.length - i) 0 ⟨Ao _,HL,Qf,Qf,Qf,Qf,rfl⟩ ?_
   rintro i A st' ⟨hi,HT,hdf,h7',h8',h9',rfl⟩
   by_cases hlt:i<l.length
   . obtain⟨x,hx⟩:=gEx hlt
     have ih:=IH.out x (Ib hx)
     have HE:=HT.out
     rw[drop_cons hx,Gc]at HE
     clear HT HL hk
     cases x with
     | mk k1 n1 s1 l1 =>
      rw[V.cells_mk]at ih
      generalize (V.mk k1 n1 s1 l1).parts=pp at *
      have ih:=Aa ih
      cases pp
      . rw[Aw]at HE
        rw[<-HE]
        clear HE
        exact WR
      . rw[AH]at HE
        have HE:=Aa HE
        repeat' (first|refine QX ?_|refine QB ?_;intro b|with_reducible refine QZ ?_<;>(try constructor)<;>intro hb<;>try intro hb1|fail)
        refine⟨i+1,_,AK _ _,⟨hlt,HE,?_,?_,?_,?_,rfl⟩,?_⟩
        all_goals exact Qf
   . have HE:=HT.out
     rw[CO q_o,Gc]at HE
     rw[<-HE]
     clear HE HT HL hk
     exact WR
end
section
attribute [local push_cast] Br Bl V.cells_mk V.cells_take V.cells_len Jr
namespace V
def c1 (k:Int)(sz len:Nat):Prop:=k<0\/5<k\/(k≠5/\0<len)\/(k≠3/\k≠4/\sz≠0)
instance (k:Int)(sz len:Nat):Decidable (c1 k sz len):=by unfold c1;infer_instance
def c2 (k n:Int):Prop:=k≠2/\n≠0/\¬(k=1/\n=1)
instance (k n:Int):Decidable (c2 k n):=by unfold c2;infer_instance
def c3 (k:Int)(sz len a b:Nat):Prop:=(k=3/\a≠1)\/(k=4/\(200<sz\/b≠1))\/20<len
instance (k:Int)(sz len a b:Nat):Decidable (c3 k sz len a b):=by unfold c3;infer_instance
theorem gm{k n:Int}{s:ByteArray}{len a b:Nat}(ha:isName s.data.toList=decide (a=1))(hb:LU s.data.toList=decide (b=1)):(sgl k n s len && (decide (k=5) || decide (len=0)))=decide (¬c1 k s.size len/\¬c2 k n/\¬c3 k s.size len a b):=by
 rw[Ej]
 unfold sgl c1 c2 c3
 rw[ha,hb]
 clear ha hb
 generalize s.size=z
 by_cases k0:k=0
 . subst k0;simp<;>omega
 by_cases k1:k=1
 . subst k1;simp<;>omega
 by_cases k2:k=2
 . subst k2;simp<;>omega
 by_cases k3:k=3
 . subst k3;simp<;>omega
 by_cases k4:k=4
 . subst k4;simp<;>omega
 by_cases k5:k=5
 . subst k5;simp<;>omega
 simp[k0,k1,k2,k3,k4,k5]
 omega
end V
open V in
theorem UG:∀(N:Nat) (v:V),v.nodes<=N->∀st,TrF prog 124 [.agg v.cells] st λx st'=>x=.b v.parts/\st'=st
|0,v,h=>by have:=v.nodes_pos;omega
|N+1,.mk k n s l,hN=>by
  intro st
  have IH:=Aa λx (hx:x∈l)=>UG N x (by have:=FO (k:=k) (n:=n) (s:=s) hx;omega)
  rw[V.cells_mk,show(V.mk k n s l).parts=(sgl k n s l.length && (decide (k=5) || decide (l.length=0)) && Gc l)from parts.eq_1 ..]
  clear hN
  obtain⟨a,ha⟩:∃a:Nat,isName s.data.toList=decide (a=1):=⟨if isName s.data.toList then 1 else 0,by cases isName s.data.toList<;>rfl⟩
  obtain⟨b,hb⟩:∃b:Nat,LU s.data.toList=decide (b=1):=⟨if LU s.data.toList then 1 else 0,by cases LU s.data.toList<;>rfl⟩
  rw[gm ha hb]
  have hNm:=Wp s
  have hVd:=λh=>Tc s h
  rw[ha]at hNm
  rw[show decide (0<=Ip s.data.toList)=decide (b=1)from hb]at hVd
  clear ha hb
  have hNm:=Aa hNm
  have hVd:=Aa hVd
  obtain⟨L,hL⟩:∃L,Gc l=L:=⟨_,rfl⟩
  have HL:Hid (Gc (l.drop 0)=L):=hL
  rw[hL]
  clear hL
  refine Qin [2] func124 results124 ntmps124 ?_
  repeat' (first|refine QV ?_|refine Lb 1 (λA st'=>A.df=[]/\A.e 1=.ip [.i k,.i n,.str s,.sl .shared (l.map V.cells)]/\A.e 37=.b (decide (c1 k s.size l.length))/\st=st') ?_ ?_|refine QY ?_|refine QB ?_;intro b|with_reducible refine QZ ?_<;>(try constructor)<;>intro hb<;>try intro hb1|fail)
  all_goals try(refine⟨Qf,Qf,?_,rfl⟩;simp(disch:=omega) only[push_cast,simprocAttr, *];(first|rfl|(refine congrArg D.b ?_;rw[Ej];simp only[AH,Aw,GD,CD,Fh,Dk,BQ,Bu,true_and,and_true,Cs,Ew,decide_eq_true_eq,decide_eq_false_iff_not,beq_iff_eq,beq_eq_false_iff_ne,bne_iff_ne,ne_eq,reduceCtorEq,iff_true,true_iff,iff_false,false_iff,AF,Co,BN,Eu];(try simp only[c1,true_and,and_true,true_or,or_true,false_or,or_false,false_and,and_false,not_true,not_false_eq_true,ne_eq]);first|done|omega)))
  rintro A st' ⟨hdf,e1,e37,rfl⟩
  by_cases h1:c1 k s.size l.length
  . rw[decide_eq_false (λh=>h.1 h1),Aw]
    rw[decide_eq_true h1]at e37
    clear h1
    repeat' (first|refine QX ?_|refine QB ?_;intro b|with_reducible refine QZ ?_<;>(try constructor)<;>intro hb<;>try intro hb1|fail)
    exact BZ
  rw[decide_eq_false h1]at e37
  rw[show decide (¬c1 k s.size l.length/\¬c2 k n/\¬c3 k s.size l.length a b)=decide (¬c2 k n/\¬c3 k s.size l.length a b)from decide_eq_decide.2 ⟨λh=>h.2,λh=>⟨h1,h⟩⟩]
  clear h1
  repeat' (first|refine QV ?_|refine Lb 3 (λA st'=>A.df=[]/\A.e 1=.ip [.i k,.i n,.str s,.sl .shared (l.map V.cells)]/\A.e 56=.b (decide (c2 k n))/\st=st') ?_ ?_|refine QY ?_|refine QB ?_;intro b|with_reducible refine QZ ?_<;>(try constructor)<;>intro hb<;>try intro hb1|fail)
  all_goals try(refine⟨Qf,Qf,?_,rfl⟩;simp(disch:=omega) only[push_cast,simprocAttr, *];(first|rfl|(refine congrArg D.b ?_;rw[Ej];simp only[AH,Aw,GD,CD,Fh,Dk,BQ,Bu,true_and,and_true,Cs,Ew,decide_eq_true_eq,decide_eq_false_iff_not,beq_iff_eq,beq_eq_false_iff_ne,bne_iff_ne,ne_eq,reduceCtorEq,iff_true,true_iff,iff_false,false_iff,AF,Co,BN,Eu];(try simp only[c2,true_and,and_true,true_or,or_true,false_or,or_false,false_and,and_false,not_true,not_false_eq_true,ne_eq]);first|done|omega)))
  clear hdf e1 e37 A
  rintro A st' ⟨hdf,e1,e37,rfl⟩
  by_cases h1:c2 k n
  . rw[decide_eq_false (λh=>h.1 h1),Aw]
    rw[decide_eq_true h1]at e37
    clear h1
    repeat' (first|refine QX ?_|refine QB ?_;intro b|with_reducible refine QZ ?_<;>(try constructor)<;>intro hb<;>try intro hb1|fail)
    exact BZ
  rw[decide_eq_false h1]at e37
  rw[show decide (¬c2 k n/\¬c3 k s.size l.length a b)=decide (¬c3 k s.size l.length a b)from decide_eq_decide.2 ⟨λh=>h.2,λh=>⟨h1,h⟩⟩]
  clear h1
  repeat' (first|refine QV ?_|refine Lb 5 (λA st'=>A.df=[]/\A.e 1=.ip [.i k,.i n,.str s,.sl .shared (l.map V.cells)]/\A.e 88=.b (decide (c3 k s.size l.length a b))/\st=st') ?_ ?_|refine QY ?_|refine QB ?_;intro b|with_reducible refine QZ ?_<;>(try constructor)<;>intro hb<;>try intro hb1|refine Qc call161 (hVd.out q_o _) ?_|fail)
  all_goals try(refine⟨Qf,Qf,?_,rfl⟩;simp(disch:=omega) only[push_cast,simprocAttr, *];(first|rfl|(refine congrArg D.b ?_;rw[Ej];simp only[AH,Aw,GD,CD,Fh,Dk,BQ,Bu,true_and,and_true,Cs,Ew,decide_eq_true_eq,decide_eq_false_iff_not,beq_iff_eq,beq_eq_false_iff_ne,bne_iff_ne,ne_eq,reduceCtorEq,iff_true,true_iff,iff_false,false_iff,AF,Co,BN,Eu];(try simp only[c3,true_and,and_true,true_or,or_true,false_or,or_false,false_and,and_false,not_true,not_false_eq_true,ne_eq]);first|done|omega)))
  clear hdf e1 e37 A
  rintro A st' ⟨hdf,e1,e37,rfl⟩
  by_cases h1:c3 k s.size l.length a b
  . rw[decide_eq_false (λh=>h h1),Aw]
    rw[decide_eq_true h1]at e37
    clear h1
    repeat' (first|refine QX ?_|refine QB ?_;intro b|with_reducible refine QZ ?_<;>(try constructor)<;>intro hb<;>try intro hb1|fail)
    exact BZ
  rw[decide_eq_false h1]at e37
  rw[decide_eq_true h1,AH]
  have hlen:l.length<=20:=by unfold c3 at h1;omega
  clear h1 hNm hVd
  repeat' (first|refine QX ?_|refine QB ?_;intro b|with_reducible refine QZ ?_<;>(try constructor)<;>intro hb<;>try intro hb1|fail)
  refine DN (ι:=Nat) (λi A st'=>i<=l.length/\Hid (Gc (l.drop i)=L)/\A.df=[]/\A.e 1=.ip [.i k,.i n,.str s,.sl .shared (l.map V.cells)]/\A.e 3=.i i/\st=st') (λi=>l.length - i) 0 ⟨Ao _,HL,Qf,Qf,Qf,rfl⟩ ?_
  clear hdf e1 e37 A
  rintro i A st' ⟨hi,HT,hdf,e1,e3,rfl⟩
  by_cases hlt:i<l.length
  . obtain⟨x,hx⟩:=gEx hlt
    have ih:=IH.out x (Ib hx)
    have HE:=HT.out
    rw[drop_cons hx,Gc]at HE
    clear HT HL
    cases x with
    | mk k1 n1 s1 l1 =>
     rw[V.cells_mk]at ih
     generalize (V.mk k1 n1 s1 l1).parts=pp at *
     have ih:=Aa ih
     cases pp
     . rw[Aw]at HE
       rw[<-HE]
       clear HE
       exact WR
     . rw[AH]at HE
       have HE:=Aa HE
       repeat' (first|refine QX ?_|refine QB ?_;intro b|with_reducible refine QZ ?_<;>(try constructor)<;>intro hb<;>try intro hb1|fail)
       refine⟨i+1,⟨hlt,HE,?_,?_,?_,rfl⟩,?_⟩
       all_goals exact Qf
  . have HE:=HT.out
    rw[CO q_o,Gc]at HE
    rw[<-HE]
    clear HE HT HL
    exact WR
end
section
attribute [local push_cast] Br Bl V.cells_mk V.cells_take V.cells_len Jr
namespace V
def great (v:V):Bool:=decide (v.cnt 1000 10<0) || decide (10<(v.deep:Int))
def right (v:V):Bool:=v.parts && (decide (v.deep<=4) && decide (v.nodes<=100))
theorem not_great{v:V}(h:v.great=false):v.nodes<=1000/\v.deep<=10:=by
 unfold great at h
 rw[BU,decide_eq_false_iff_not,decide_eq_false_iff_not]at h
 have:=Xb v 1000 10 q_o
 exact⟨by omega,by omega⟩
theorem right_iff{v:V}:v.right=true↔v.parts=true/\v.deep<=4/\v.nodes<=100:=by
 unfold right;simp
end V
open V in
theorem JC(v:V)(hok:v.Ok)(st:St):TrF prog 16 [.agg v.cells] st λx st'=>x=.b v.great/\st'=st:=by
 have hC:=Aa (Nr v.nodes v (Ap _) hok 1000 10 q_o q_o q_o q_o)
 have hB:v.cnt 1000 10<0\/v.nodes<=1000:=by
  rcases nQ (v.cnt 1000 10) 0 with h|h
  . exact .inl h
  . have:=Xb v 1000 10 h;omega
 have hD:=Aa λh=>Pc v.nodes v (Ap _) h
 unfold great
 generalize v.cnt 1000 10=c at *
 cases v with
|mk k n s l =>
 rw[V.cells_mk]at *
 generalize (V.mk k n s l).deep=d at *
 generalize (V.mk k n s l).nodes=nn at *
 refine Qin [2] func16 results16 ntmps16 ?_
 repeat' (first|refine QX ?_|refine QB ?_;intro b|with_reducible refine QZ ?_<;>(try constructor)<;>intro hb<;>try intro hb1|refine Qc call51 (hD.out q_o _) ?_|fail)
 all_goals(refine BZ (hd:=?_);(try simp(disch:=omega) only[push_cast,simprocAttr, *]);try(first|exact q_e|refine LE.of_eq ?_))
 all_goals(first|rfl|(refine congrArg D.b ?_;rw[Ej];simp only[AH,Aw,GD,CD,Fh,Dk,BQ,Bu,true_and,and_true,Cs,Ew,decide_eq_true_eq,decide_eq_false_iff_not,beq_iff_eq,beq_eq_false_iff_ne,bne_iff_ne,ne_eq,reduceCtorEq,iff_true,true_iff,iff_false,false_iff,AF,Co,BN,Eu];first|done|omega))
open V in
theorem QI(v:V)(hB:v.nodes<=4611686018427387904)(st:St):TrF prog 181 [.agg v.cells] st λx st'=>x=.b v.right/\st'=st:=by
 have hD:=Aa (TW v.nodes v (Ap _) hB)
 have hN:=Aa (QK v.nodes v (Ap _) hB)
 have hP:=Aa (QJ v.nodes v (Ap _))
 unfold right
 cases v with
|mk k n s l =>
 rw[V.cells_mk]at *
 generalize (V.mk k n s l).deep=d at *
 generalize (V.mk k n s l).nodes=nn at *
 generalize (V.mk k n s l).parts=p at *
 refine Qin [2] func181 results181 ntmps181 ?_
 repeat' (first|refine QX ?_|refine QB ?_;intro b|with_reducible refine QZ ?_<;>(try constructor)<;>intro hb<;>try intro hb1|fail)
 all_goals(refine BZ (hd:=?_);(try simp(disch:=omega) only[push_cast,simprocAttr, *]);try(first|exact q_e|refine LE.of_eq ?_))
 all_goals(cases p<;>(first|rfl|(refine congrArg D.b ?_;rw[Ej];simp only[AH,Aw,GD,CD,Fh,Dk,BQ,Bu,true_and,and_true,Cs,Ew,decide_eq_true_eq,decide_eq_false_iff_not,beq_iff_eq,beq_eq_false_iff_ne,bne_iff_ne,ne_eq,reduceCtorEq,iff_true,true_iff,iff_false,false_iff,AF,Co,BN,Eu];first|done|omega)))
end
section
attribute [local push_cast] Br Bl V.cells_mk V.cells_take V.cells_len Jr bne_self_eq_false
namespace V
def sgn (a b:Int):Int:=if a<b then -1 else if b<a then 1 else 0
def ors:List Int->Int
|[]=>0
|x::l=>if x=0 then ors l else x
def cmpB:List UInt8->List UInt8->Int
|[],[]=>0
|[],_::_ => -1
|_::_,[]=>1
|x::a,y::b=>if sgn x.toNat y.toNat=0 then cmpB a b else sgn x.toNat y.toNat
theorem cmpB_end(a b:List UInt8)(i:Nat)(ha:i<=a.length)(hb:i<=b.length)(h:i=a.length\/i=b.length):cmpB (a.drop i) (b.drop i)=sgn a.length b.length:=by
 have h1:(a.drop i).length=a.length - i:=AO
 have h2:(b.drop i).length=b.length - i:=AO
 cases hx:a.drop i with
|nil =>
  rw[hx]at h1
  cases hy:b.drop i with
  | nil=>rw[hy]at h2;simp at h1 h2;rw[cmpB,sgn,if_neg q_o,if_neg q_o]
  | cons y t=>rw[hy]at h2;simp at h1 h2;rw[cmpB,sgn,if_pos q_o]
|cons x s =>
  rw[hx]at h1
  cases hy:b.drop i with
  | nil=>rw[hy]at h2;simp at h1 h2;rw[cmpB,sgn,if_neg q_o,if_pos q_o]
  | cons y t=>rw[hy]at h2;simp at h1 h2;omega
end V
theorem kH(a:Int)(st:St):TrF prog 112 [.i a] st λx st'=>x=.b false/\st'=st:=by
 refine Qin [2] func112 results112 ntmps112 ?_
 exact WR
theorem kG(a:Int)(st:St):TrF prog 193 [.i a] st λx st'=>x=.b false/\st'=st:=by
 refine Qin [2] func193 results193 ntmps193 ?_
 exact WR
theorem kI(a:UInt8)(st:St):TrF prog 192 [.y a] st λx st'=>x=.b false/\st'=st:=by
 refine Qin [2] func192 results192 ntmps192 ?_
 exact WR
theorem Sq(a b:Int)(st:St):TrF prog 75 [.i a,.i b] st λx st'=>x=.i (V.sgn a b)/\st'=st:=by
 refine Qin [4] func75 results75 ntmps75 ?_
 repeat' (first|refine QX ?_|refine QB ?_;intro b|with_reducible refine QZ ?_<;>(try constructor)<;>intro hb<;>try intro hb1|refine Qc call112 (kH _ _) ?_|fail)
 all_goals(refine BZ (hd:=?_);(try simp(disch:=omega) only[push_cast,simprocAttr, *]);try(first|exact q_e|refine LE.of_eq ?_))
 all_goals(unfold V.sgn;simp(disch:=omega) only[push_cast,simprocAttr, *])
theorem lg(a b:Int)(st:St):TrF prog 164 [.i a,.i b] st λx st'=>x=.i (V.sgn a b)/\st'=st:=by
 refine Qin [4] func164 results164 ntmps164 ?_
 repeat' (first|refine QX ?_|refine QB ?_;intro b|with_reducible refine QZ ?_<;>(try constructor)<;>intro hb<;>try intro hb1|refine Qc call193 (kG _ _) ?_|fail)
 all_goals(refine BZ (hd:=?_);(try simp(disch:=omega) only[push_cast,simprocAttr, *]);try(first|exact q_e|refine LE.of_eq ?_))
 all_goals(unfold V.sgn;simp(disch:=omega) only[push_cast,simprocAttr, *])
theorem lh(a b:UInt8)(st:St):TrF prog 163 [.y a,.y b] st λx st'=>x=.i (V.sgn a.toNat b.toNat)/\st'=st:=by
 refine Qin [4] func163 results163 ntmps163 ?_
 repeat' (first|refine QX ?_|refine QB ?_;intro b|with_reducible refine QZ ?_<;>(try constructor)<;>intro hb<;>try intro hb1|refine Qc call192 (kI _ _) ?_|fail)
 all_goals(refine BZ (hd:=?_);(try simp(disch:=omega) only[push_cast,simprocAttr, *]);try(first|exact q_e|refine LE.of_eq ?_))
 all_goals(unfold V.sgn;simp(disch:=omega) only[push_cast,simprocAttr, *])
theorem jn(a b:UInt8)(st:St):TrF prog 162 [.y a,.y b] st λx st'=>x=.i (V.sgn a.toNat b.toNat)/\st'=st:=by
 refine Qin [4] func162 results162 ntmps162 ?_
 repeat' (first|refine QX ?_|refine QB ?_;intro b|with_reducible refine QZ ?_<;>(try constructor)<;>intro hb<;>try intro hb1|refine Qc call163 (lh _ _ _) ?_|fail)
 all_goals exact BZ
theorem orF(o:Own)(l:List Int)(hl:l.length<=1000)(st:St):TrF prog 94 [.sl o (l.map Bl)] st λx st'=>x=.i (V.ors l)/\st'=st:=by
 obtain⟨B,hB⟩:∃B,V.ors l=B:=⟨_,rfl⟩
 have HB:Hid (V.ors (l.drop 0)=B):=hB
 rw[hB]
 clear hB
 refine Qin [2] func94 results94 ntmps94 ?_
 repeat' (first|refine QX ?_|(refine QB ?_;intro b)|refine QP ?_;intro o' ho'|(with_reducible refine QZ ?_<;>(try constructor)<;>intro hb<;>try intro hb1)|fail)
 refine DN (ι:=Nat) (λi A st'=>i<=l.length/\Hid (V.ors (l.drop i)=B)/\A.df=[]/\A.e 3=.i 0/\A.e 6=.sl o (l.map Bl)/\A.e 7=.i l.length/\A.e 8=.i i/\st=st') (λi=>l.length - i) 0 ⟨Ao _,HB,Qf,Qf,Qf,Qf,Qf,rfl⟩ ?_
 rintro i A st' ⟨hi,HT,hdf,e3,e6,e7,e8,rfl⟩
 by_cases hlt:i<l.length
 . obtain⟨x,hx⟩:=gEx hlt
   have HE:=HT.out
   rw[V.drop_cons hx,V.ors]at HE
   clear HT HB
   by_cases h0:x=0
   . rw[if_pos h0]at HE
     have HE:=Aa HE
     subst h0
     repeat' (first|refine QX ?_|(refine QB ?_;intro b)|refine QP ?_;intro o' ho'|(with_reducible refine QZ ?_<;>(try constructor)<;>intro hb<;>try intro hb1)|fail)
     refine⟨i+1,⟨hlt,HE,?_,?_,?_,?_,?_,rfl⟩,?_⟩
     all_goals exact Qf
   . rw[if_neg h0]at HE
     rw[<-HE]
     clear HE
     exact WRa
 . have HE:=HT.out
   rw[CO q_o,V.ors]at HE
   rw[<-HE]
   clear HE HT HB
   exact WRa
theorem fU(o o':Own)(a b:List UInt8)(ha:a.length<=maxLen)(st:St):TrF prog 165 [.sl o (a.map Br),.sl o' (b.map Br),.fn (.func 162) [] []] st λx st'=>x=.i (V.cmpB a b)/\st'=st:=by
 unfold maxLen at ha
 obtain⟨B,hB⟩:∃B,V.cmpB a b=B:=⟨_,rfl⟩
 have HB:Hid (V.cmpB (a.drop 0) (b.drop 0)=B):=hB
 rw[hB]
 clear hB
 obtain⟨m,hm,hm1,hm2,hm3⟩:∃m:Nat,(if b.length<a.length then(b.length:Int)else a.length)=m/\m<=a.length/\m<=b.length/\(m=a.length\/m=b.length):=by
  by_cases h:b.length<a.length
  . exact⟨b.length,by rw[if_pos h],by omega,by omega,by omega⟩
  . exact⟨a.length,by rw[if_neg h],by omega,by omega,by omega⟩
 refine Qin [6] func165 results165 ntmps165 ?_
 repeat' (first|refine QX ?_|(refine QB ?_;intro b)|refine QP ?_;intro o' ho'|(with_reducible refine QZ ?_<;>(try constructor)<;>intro hb<;>try intro hb1)|fail)
 refine DN (ι:=Nat) (λi A st'=>i<=m/\Hid (V.cmpB (a.drop i) (b.drop i)=B)/\A.df=[]/\A.e 0=.sl o (a.map Br)/\A.e 1=.sl o' (b.map Br)/\A.e 2=.fn (.func 162) [] []/\A.e 13=.i m/\A.e 14=.i i/\st=st') (λi=>m - i) 0 ⟨Ao _,HB,Qf,Qf,Qf,Qf,Qf,Qf,rfl⟩ ?_
 clear hm
 rintro i A st' ⟨hi,HT,hdf,e0,e1,e2,e13,e14,rfl⟩
 by_cases hlt:i<m
 . obtain⟨x,hx⟩:=gEx (l:=a) (i:=i) q_o
   obtain⟨y,hy⟩:=gEx (l:=b) (i:=i) q_o
   have HE:=HT.out
   rw[V.drop_cons hx,V.drop_cons hy,V.cmpB]at HE
   have hC:=jn x y
   clear HT HB
   generalize V.sgn x.toNat y.toNat=q at *
   have hC:=Aa hC
   by_cases h0:q=0
   . rw[if_pos h0]at HE
     have HE:=Aa HE
     subst h0
     repeat' (first|refine QX ?_|(refine QB ?_;intro b)|refine QP ?_;intro o' ho'|(with_reducible refine QZ ?_<;>(try constructor)<;>intro hb<;>try intro hb1)|fail)
     refine⟨i+1,⟨hlt,HE,?_,?_,?_,?_,?_,?_,rfl⟩,?_⟩
     all_goals exact Qf
   . rw[if_neg h0]at HE
     rw[<-HE]
     clear HE
     exact WRa
 . have HE:=HT.out
   rw[V.cmpB_end a b i q_o q_o q_o]at HE
   rw[<-HE]
   clear HE HT HB
   repeat' (first|refine QX ?_|(refine QB ?_;intro b)|refine QP ?_;intro o' ho'|(with_reducible refine QZ ?_<;>(try constructor)<;>intro hb<;>try intro hb1)|refine Qc call75 (Sq _ _ _) ?_|fail)
   all_goals exact BZ
end
section
attribute [local push_cast] Br Bl V.cells_mk V.cells_take V.cells_len Jr
namespace V
mutual
def cmp:V->V->Int
|.mk k n s l,.mk k' n' s' l'=>ors [sgn k k',sgn n n',cmpB s.data.toList s'.data.toList,cmpL l l']
def cmpL:List V->List V->Int
|[],[]=>0
|[],_::_ => -1
|_::_,[]=>1
|x::a,y::b=>if x.cmp y=0 then cmpL a b else x.cmp y
end
theorem VF(a b:List V)(i:Nat)(ha:i<=a.length)(hb:i<=b.length)(h:i=a.length\/i=b.length):cmpL (a.drop i) (b.drop i)=sgn a.length b.length:=by
 have h1:(a.drop i).length=a.length - i:=AO
 have h2:(b.drop i).length=b.length - i:=AO
 cases hx:a.drop i with
|nil =>
  rw[hx]at h1
  cases hy:b.drop i with
  | nil=>rw[hy]at h2;simp at h1 h2;rw[cmpL,sgn,if_neg q_o,if_neg q_o]
  | cons y t=>rw[hy]at h2;simp at h1 h2;rw[cmpL,sgn,if_pos q_o]
|cons x s =>
  rw[hx]at h1
  cases hy:b.drop i with
  | nil=>rw[hy]at h2;simp at h1 h2;rw[cmpL,sgn,if_neg q_o,if_pos q_o]
  | cons y t=>rw[hy]at h2;simp at h1 h2;omega
inductive Sm:V->Prop
|mk {k n:Int} {s:ByteArray} {l:List V} (hs:s.size<=1000000) (hl:l.length<=1000000) (h:∀x∈l,Sm x):Sm (.mk k n s l)
inductive Bg:V->Prop
|mk {k n:Int} {s:ByteArray} {l:List V} (hs:s.size<=maxLen) (hl:l.length<=maxLen) (h:∀x∈l,Bg x):Bg (.mk k n s l)
theorem Ok.bg{v:V}(h:Ok v):Bg v:=by
 induction h with
|mk _ _ hs hl _ ih=>exact .mk hs hl ih
end V
open V in
theorem fT(a b:List V)(ha:a.length<=maxLen)(IH:∀x∈a,∀y∈b,∀st,TrF prog 127 [.agg x.cells,.agg y.cells] st λr st'=>r=.i (x.cmp y)/\st'=st)(st:St):TrF prog 166 [.sl .shared (a.map V.cells),.sl .shared (b.map V.cells),.fn (.func 127) [] []] st λx st'=>x=.i (cmpL a b)/\st'=st:=by
 unfold maxLen at ha
 obtain⟨B,hB⟩:∃B,cmpL a b=B:=⟨_,rfl⟩
 have HB:Hid (cmpL (a.drop 0) (b.drop 0)=B):=hB
 rw[hB]
 clear hB
 obtain⟨m,hm,hm1,hm2,hm3⟩:∃m:Nat,(if b.length<a.length then(b.length:Int)else a.length)=m/\m<=a.length/\m<=b.length/\(m=a.length\/m=b.length):=by
  by_cases h:b.length<a.length
  . exact⟨b.length,by rw[if_pos h],by omega,by omega,by omega⟩
  . exact⟨a.length,by rw[if_neg h],by omega,by omega,by omega⟩
 have IH:=Aa IH
 refine Qin [6] func166 results166 ntmps166 ?_
 repeat' (first|refine QX ?_|refine QB ?_;intro b|with_reducible refine QZ ?_<;>(try constructor)<;>intro hb<;>try intro hb1|fail)
 refine DN (ι:=Nat) (λi A st'=>i<=m/\Hid (cmpL (a.drop i) (b.drop i)=B)/\A.df=[]/\A.e 0=.sl .shared (a.map V.cells)/\A.e 1=.sl .shared (b.map V.cells)/\A.e 2=.fn (.func 127) [] []/\A.e 13=.i m/\A.e 14=.i i/\st=st') (λi=>m - i) 0 ⟨Ao _,HB,Qf,Qf,Qf,Qf,Qf,Qf,rfl⟩ ?_
 clear hm
 rintro i A st' ⟨hi,HT,hdf,e0,e1,e2,e13,e14,rfl⟩
 by_cases hlt:i<m
 . obtain⟨x,hx⟩:=gEx (l:=a) (i:=i) q_o
   obtain⟨y,hy⟩:=gEx (l:=b) (i:=i) q_o
   have HE:=HT.out
   rw[V.drop_cons hx,V.drop_cons hy,cmpL]at HE
   have hC:=IH.out x (Ib hx) y (Ib hy)
   clear HT HB IH
   cases x with
   | mk k1 n1 s1 l1 =>
   cases y with
   | mk k2 n2 s2 l2 =>
   rw[V.cells_mk,V.cells_mk]at hC
   generalize V.cmp _ _=q at *
   have hC:=Aa hC
   by_cases h0:q=0
   . rw[if_pos h0]at HE
     have HE:=Aa HE
     subst h0
     repeat' (first|refine QX ?_|refine QB ?_;intro b|with_reducible refine QZ ?_<;>(try constructor)<;>intro hb<;>try intro hb1|fail)
     refine⟨i+1,⟨hlt,HE,?_,?_,?_,?_,?_,?_,rfl⟩,?_⟩
     all_goals exact Qf
   . rw[if_neg h0]at HE
     rw[<-HE]
     clear HE
     exact WR
 . have HE:=HT.out
   rw[VF a b i q_o q_o q_o]at HE
   rw[<-HE]
   clear HE HT HB IH
   repeat' (first|refine QX ?_|refine QB ?_;intro b|with_reducible refine QZ ?_<;>(try constructor)<;>intro hb<;>try intro hb1|refine Qc call75 (Sq _ _ _) ?_|fail)
   all_goals exact BZ
open V in
theorem Kx:∀(N:Nat) (a b:V),a.nodes<=N->a.Bg->b.Bg->∀st,TrF prog 127 [.agg a.cells,.agg b.cells] st λx st'=>x=.i (a.cmp b)/\st'=st
|0,a,b,h,_,_=>by have:=a.nodes_pos;omega
|N+1,.mk k n s l,.mk k' n' s' l',hN,hok,hok'=>by
  intro st
  obtain⟨hs,hl,hall⟩:=hok
  obtain⟨hs',hl',hall'⟩:=hok'
  have IH:=λx (hx:x∈l) y (hy:y∈l')=>Kx N x y (by have:=FO (k:=k) (n:=n) (s:=s) hx;omega) (hall x hx) (hall' y hy)
  have hL:=Aa (fT l l' hl IH)
  have hSL:s.data.toList.length=s.size:=by simp
  have hB:=Aa λo o'=>fU o o' s.data.toList s'.data.toList q_o
  rw[V.cells_mk,V.cells_mk,show(V.mk k n s l).cmp (V.mk k' n' s' l')=ors [sgn k k',sgn n n',cmpB s.data.toList s'.data.toList,cmpL l l']from cmp.eq_1 ..]
  clear IH hall hall' hN
  have hs:s.size<=9223372036854775807:=hs
  have hs':s'.size<=9223372036854775807:=hs'
  generalize cmpL l l'=c4 at *
  generalize cmpB s.data.toList s'.data.toList=c3 at *
  obtain⟨bs,hbs⟩:∃bs,s.data.toList=bs:=⟨_,rfl⟩
  obtain⟨bs',hbs'⟩:∃bs,s'.data.toList=bs:=⟨_,rfl⟩
  rw[hbs]at hSL
  rw[hbs,hbs']at hB
  refine Qin [4] func127 results127 ntmps127 ?_
  repeat' (first|refine QX ?_|refine QB ?_;intro b|with_reducible refine QZ ?_<;>(try constructor)<;>intro hb<;>try intro hb1|refine Qc call75 (Sq _ _ _) ?_|refine Qc call164 (lg _ _ _) ?_|refine Qc call165 (hB.out _ _ _) ?_|refine Qc call94 (orF _ [sgn k k',sgn n n',c3,c4] (by simp) _) ?_|fail)
  all_goals exact BZ
open V in
theorem Mn(a b:V)(ha:a.Bg)(hb:b.Bg)(st:St):TrF prog 126 [.agg a.cells,.agg b.cells] st λx st'=>x=.b (a.cmp b == 0)/\st'=st:=by
 have hC:=Aa (Kx a.nodes a b (Ap _) ha hb)
 cases a with
|mk k n s l =>
 cases b with
|mk k' n' s' l' =>
 rw[V.cells_mk,V.cells_mk]at *
 generalize V.cmp _ _=q at *
 refine Qin [4] func126 results126 ntmps126 ?_
 exact WR
end
section
attribute [local push_cast] Br Bl V.cells_mk V.cells_take V.cells_len Jr
namespace V
theorem sgn_self(a:Int):sgn a a=0:=by unfold sgn;rw[if_neg q_o,if_neg q_o]
theorem OL{a b:Int}(h:a<b):sgn a b = -1:=by unfold sgn;rw[if_pos h]
theorem OM{a b:Int}(h:b<a):sgn a b=1:=by unfold sgn;rw[if_neg q_o,if_pos h]
theorem sgn_zero{a b:Int}:sgn a b=0↔a=b:=by
 unfold sgn
 split
 . omega
 . split<;>omega
theorem ors_cons{x:Int}{l:List Int}(h:x≠0):ors (x::l)=x:=by rw[ors,if_neg h]
theorem ors_zero{l:List Int}:ors (0::l)=ors l:=by rw[ors,if_pos rfl]
theorem ors_one{x:Int}:ors [x]=x:=by
 rw[ors];split
 . rename_i h;rw[h];rfl
 . rfl
end V
open V in
theorem KG:∀(N:Nat) (a b:V),a.nodes<=N->a.Ok->∀st,TrF prog 86 [.agg a.cells,.agg b.cells] st λx st'=>x=.i (a.cmp b)/\st'=st
|0,a,b,h,_=>by have:=a.nodes_pos;omega
|N+1,.mk k n s l,.mk k' n' s' l',hN,hok=>by
  intro st
  obtain⟨hk,hn,hs,hl,hall⟩:=hok
  unfold maxLen at hs hl
  have IH:=Aa λx (hx:x∈l) y=>KG N x y (by have:=FO (k:=k) (n:=n) (s:=s) hx;omega) (hall x hx)
  rw[V.cells_mk,V.cells_mk,show(V.mk k n s l).cmp (V.mk k' n' s' l')=ors [sgn k k',sgn n n',cmpB s.data.toList s'.data.toList,cmpL l l']from cmp.eq_1 ..]
  clear hall hN hk hn
  have hSL:s.data.toList.length=s.size:=by simp
  have hSL':s'.data.toList.length=s'.size:=by simp
  have hCL:Hid (cmpL (l.drop 0) (l'.drop 0)=cmpL l l'):=rfl
  have hCB:Hid (cmpB (s.data.toList.drop 0) (s'.data.toList.drop 0)=cmpB s.data.toList s'.data.toList):=rfl
  generalize cmpL l l'=c4 at *
  generalize cmpB s.data.toList s'.data.toList=c3 at *
  refine Qin [4] func86 results86 ntmps86 ?_
  by_cases hk:k=k'
  case neg =>
   rw[ors_cons (λh=>hk (sgn_zero.1 h))]
   have hk1:(k != k')=true:=by simpa using hk
   clear hSL hSL'
   repeat' (first|refine QX ?_|refine QB ?_;intro b|with_reducible refine QZ ?_<;>(try constructor)<;>intro hb<;>try intro hb1|fail)
   all_goals(refine BZ (hd:=?_);(try simp(disch:=omega) only[push_cast,simprocAttr, *]);try(first|exact q_e|refine LE.of_eq ?_))
   . rw[OL (by assumption)]
   . rw[OM q_o]
  subst hk
  rw[sgn_self,ors_zero]
  by_cases hn:n=n'
  case neg =>
   rw[ors_cons (λh=>hn (sgn_zero.1 h))]
   have hn1:(n != n')=true:=by simpa using hn
   have hkk:(k != k)=false:=by simp
   clear hSL hSL'
   repeat' (first|refine QX ?_|refine QB ?_;intro b|with_reducible refine QZ ?_<;>(try constructor)<;>intro hb<;>try intro hb1|fail)
   all_goals(refine BZ (hd:=?_);(try simp(disch:=omega) only[push_cast,simprocAttr, *]);try(first|exact q_e|refine LE.of_eq ?_))
   . rw[OL (by assumption)]
   . rw[OM q_o]
  subst hn
  rw[sgn_self,ors_zero]
  have hkk:(k != k)=false:=by simp
  have hnn:(n != n)=false:=by simp
  repeat' (first|refine QX ?_|refine QB ?_;intro b|with_reducible refine QZ ?_<;>(try constructor)<;>intro hb<;>try intro hb1|fail)
  refine DN (ι:=Nat) (λi A st'=>i<=s.size/\i<=s'.size/\Hid (cmpB (s.data.toList.drop i) (s'.data.toList.drop i)=c3)/\A.df=[]/\A.e 2=.ip [.i k,.i n,.str s,.sl .shared (l.map V.cells)]/\A.e 3=.ip [.i k,.i n,.str s',.sl .shared (l'.map V.cells)]/\A.e 5=.i i/\st=st') (λi=>s.size - i) 0 ⟨Ao _,Ao _,hCB,Qf,Qf,Qf,Qf,rfl⟩ ?_
  clear hkk hnn hCB
  rintro i A st' ⟨hi,hi',HT,hdf,e2,e3,e5,rfl⟩
  by_cases hlt:(i:Int)<s.size/\(i:Int)<s'.size
  . obtain⟨hlt,hlt'⟩:=hlt
    obtain⟨x,hx⟩:=gEx (l:=s.data.toList) (i:=i) q_o
    obtain⟨y,hy⟩:∃y,s'.data.toList[i]?=some y:=⟨_,Al q_o⟩
    have HE:=HT.out
    rw[V.drop_cons hx,V.drop_cons hy,cmpB]at HE
    clear HT
    by_cases h1:(x.toNat:Int)<y.toNat
    . rw[OL h1,if_neg (by decide)]at HE
      rw[<-HE,ors_cons (by decide)]
      clear HE
      exact WR
    by_cases h2:(y.toNat:Int)<x.toNat
    . rw[OM h2,if_neg (by decide)]at HE
      rw[<-HE,ors_cons (by decide)]
      clear HE
      exact WR
    rw[show sgn (x.toNat:Int) y.toNat=0 from sgn_zero.2 q_o,if_pos rfl]at HE
    have HE:=Aa HE
    repeat' (first|refine QX ?_|refine QB ?_;intro b|with_reducible refine QZ ?_<;>(try constructor)<;>intro hb<;>try intro hb1|fail)
    refine⟨i+1,⟨by omega,by omega,HE,?_,?_,?_,?_,rfl⟩,?_⟩
    all_goals exact Qf
  . have HE:=HT.out
    rw[cmpB_end _ _ i q_o q_o q_o,hSL,hSL']at HE
    clear HT hSL hSL'
    by_cases h1:(s.size:Int)<s'.size
    . rw[OL h1]at HE
      rw[<-HE,ors_cons (by decide)]
      clear HE
      have h3:((s.size:Int) != s'.size)=true:=by simp;omega
      have hlt:¬(i:Int)<s.size:=by omega
      exact WR
    by_cases h2:(s'.size:Int)<s.size
    . rw[OM h2]at HE
      rw[<-HE,ors_cons (by decide)]
      clear HE
      have h3:((s.size:Int) != s'.size)=true:=by simp;omega
      have hlt:¬(i:Int)<s'.size:=by omega
      exact WR
    rw[show sgn (s.size:Int) s'.size=0 from sgn_zero.2 q_o]at HE
    rw[<-HE,ors_zero,ors_one]
    have h3:((s.size:Int) != s'.size)=false:=by simp;omega
    have hlt2:¬(i:Int)<s.size:=by omega
    clear HE hlt h1 h2
    repeat' (first|refine QX ?_|refine QB ?_;intro b|with_reducible refine QZ ?_<;>(try constructor)<;>intro hb<;>try intro hb1|fail)
    refine DN (ι:=Nat) (λi A st'=>i<=l.length/\i<=l'.length/\Hid (cmpL (l.drop i) (l'.drop i)=c4)/\A.df=[]/\A.e 2=.ip [.i k,.i n,.str s,.sl .shared (l.map V.cells)]/\A.e 3=.ip [.i k,.i n,.str s',.sl .shared (l'.map V.cells)]/\A.e 6=.i i/\st=st') (λi=>l.length - i) 0 ⟨Ao _,Ao _,hCL,Qf,Qf,Qf,Qf,rfl⟩ ?_
    clear h3 hlt2 hi hi' hdf e2 e3 e5 hCL i A
    rintro i A st' ⟨hi,hi',HT,hdf,e2,e3,e6,rfl⟩
    by_cases hlt:(i:Int)<l.length/\(i:Int)<l'.length
    . obtain⟨hlt,hlt'⟩:=hlt
      obtain⟨x,hx⟩:=gEx (l:=l) (i:=i) q_o
      obtain⟨y,hy⟩:∃y,l'[i]?=some y:=⟨_,Al q_o⟩
      have HE:=HT.out
      rw[V.drop_cons hx,V.drop_cons hy,cmpL]at HE
      have hC:=IH.out x (Ib hx) y
      clear HT IH
      cases x with
      | mk k1 n1 s1 l1 =>
      cases y with
      | mk k2 n2 s2 l2 =>
      rw[V.cells_mk,V.cells_mk]at hC
      generalize V.cmp _ _=q at *
      have hC:=Aa hC
      by_cases h0:q=0
      . rw[if_pos h0]at HE
        have HE:=Aa HE
        subst h0
        repeat' (first|refine QX ?_|refine QB ?_;intro b|with_reducible refine QZ ?_<;>(try constructor)<;>intro hb<;>try intro hb1|fail)
        refine⟨i+1,⟨by omega,by omega,HE,?_,?_,?_,?_,rfl⟩,?_⟩
        all_goals exact Qf
      . rw[if_neg h0]at HE
        rw[<-HE]
        clear HE
        have h0':(q != 0)=true:=by simpa using h0
        exact WR
    . have HE:=HT.out
      rw[VF _ _ i q_o q_o q_o]at HE
      clear HT IH
      rw[<-HE]
      clear HE
      by_cases h1:(l.length:Int)<l'.length
      . rw[OL h1]
        have hlt:¬(i:Int)<l.length:=by omega
        exact WR
      by_cases h2:(l'.length:Int)<l.length
      . rw[OM h2]
        have hlt:¬(i:Int)<l'.length:=by omega
        exact WR
      rw[show sgn (l.length:Int) l'.length=0 from sgn_zero.2 q_o]
      have hlt:¬(i:Int)<l.length:=by omega
      exact WR
open V in
theorem bR(a b:V)(ha:a.Ok)(st:St):TrF prog 55 [.agg a.cells,.agg b.cells] st λx st'=>x=.b (a.cmp b == 0)/\st'=st:=by
 have hC:=Aa (KG a.nodes a b (Ap _) ha)
 cases a with
|mk k n s l =>
 cases b with
|mk k' n' s' l' =>
 rw[V.cells_mk,V.cells_mk]at *
 generalize V.cmp _ _=q at *
 refine Qin [4] func55 results55 ntmps55 ?_
 exact WR
end
namespace V
theorem Sr:∀l:List UInt8,cmpB l l=0
|[]=>rfl
|x::l=>by rw[cmpB,sgn_self,if_pos rfl,Sr l]
theorem XW{a b c d:Int}:ors [a,b,c,d]=0↔a=0/\b=0/\c=0/\d=0:=by
 unfold ors ors ors ors ors
 constructor
 . intro h
   by_cases ha:a=0
   . rw[if_pos ha]at h
     by_cases hb:b=0
     . rw[if_pos hb]at h
       by_cases hc:c=0
       . rw[if_pos hc]at h
         by_cases hd:d=0
         . exact⟨ha,hb,hc,hd⟩
         . rw[if_neg hd]at h;exact absurd h hd
       . rw[if_neg hc]at h;exact absurd h hc
     . rw[if_neg hb]at h;exact absurd h hb
   . rw[if_neg ha]at h;exact absurd h ha
 . rintro⟨rfl,rfl,rfl,rfl⟩;rfl
mutual
theorem cmp_self:∀v:V,v.cmp v=0
|.mk k n s l=>by rw[cmp,XW];exact⟨sgn_self k,sgn_self n,Sr _,cmpL_self l⟩
theorem cmpL_self:∀l:List V,cmpL l l=0
|[]=>by rw[cmpL]
|x::l=>by rw[cmpL,cmp_self x,if_pos rfl,cmpL_self l]
end
theorem Yr:∀a b:List UInt8,cmpB a b=0->a=b
|[],[],_=>rfl
|[],_::_,h=>by rw[cmpB] at h;omega
|_::_,[],h=>by rw[cmpB] at h;omega
|x::a,y::b,h=>by
  rw[cmpB]at h
  split at h
  . rename_i h0
    have hxy:x.toNat=y.toNat:=by have:=sgn_zero.1 h0;omega
    rw[gU.1 hxy,Yr a b h]
  . rename_i h0;exact absurd h h0
mutual
theorem cmp_eq:∀a b:V,a.cmp b=0->a=b
|.mk k n s l,.mk k' n' s' l',h=>by
  rw[cmp,XW]at h
  obtain⟨h1,h2,h3,h4⟩:=h
  have hs:s=s':=by
   apply ByteArray.ext
   apply Ke
   exact Yr _ _ h3
  rw[sgn_zero.1 h1,sgn_zero.1 h2,hs,cmpL_eq l l' h4]
theorem cmpL_eq:∀a b:List V,cmpL a b=0->a=b
|[],[],_=>rfl
|[],_::_,h=>by rw[cmpL] at h;omega
|_::_,[],h=>by rw[cmpL] at h;omega
|x::a,y::b,h=>by
  rw[cmpL]at h
  split at h
  . rename_i h0
    rw[cmp_eq x y h0,cmpL_eq a b h]
  . rename_i h0;exact absurd h h0
end
end V
structure Sl where
 name:ByteArray
 types:Int
 req:Bool
 dv:V
def Sl.cells (s:Sl):List D:=.str s.name::.i s.types::.b s.req::s.dv.cells
theorem Sl.cells_mk(nm:ByteArray)(ty:Int)(rq:Bool)(k n:Int)(s:ByteArray)(l:List V):(Sl.mk nm ty rq (.mk k n s l)).cells=[.str nm,.i ty,.b rq,.i k,.i n,.str s,.sl .shared (l.map V.cells)]:=by
 unfold Sl.cells;rw[V.cells_mk]
theorem Sl.cells_len(s:Sl):s.cells.length=7:=by
 unfold Sl.cells
 rw[An,An,An,V.cells_len]
def Sl.Ok (s:Sl):Prop:=s.name.size<=maxLen/\(-9223372036854775808<=s.types/\s.types<=9223372036854775807)/\s.dv.Ok
structure Stp where
 kind:Int
 col:Int
 slot:Sl
 order:List Int
def Stp.cells (s:Stp):List D:=.i s.kind::.i s.col::(s.slot.cells++[.sl .shared (s.order.map Bl)])
structure Tm where
 name:ByteArray
 slots:List Sl
 steps:List Stp
def Tm.cells (t:Tm):List D:=[.str t.name,.sl .shared (t.slots.map Sl.cells),.sl .shared (t.steps.map Stp.cells)]
structure Vr where
 slots:List Sl
 cols:List Nat
def BV (n:Nat):List D:=[.i n]
def Vr.cells (x:Vr):List D:=[.sl .shared (x.slots.map Sl.cells),.sl .shared (x.cols.map BV)]
namespace Sch
def zeroV:V:=.mk 0 0 ⟨#[]⟩ []
def takes (t:Int):Bool:=decide (1<=t) && decide (t<=63)
def bit (t:Int)(k:Int):Bool:=bits .and .i64 (t / 2 ^ k.toNat) 1 == 1
def fits (s:Sl)(v:V):Bool:=v.right && bit s.types (match v with|.mk k _ _ _=>k)
def sound (s:Sl):Bool:=V.isName s.name.data.toList && takes s.types && fits s s.dv
def named (slots:List Sl)(name:ByteArray)(i:Nat):Bool:=(slots[i]?).any λs=>s.name.toList == name.toList
def colL (slots:List Sl)(name:ByteArray):List Nat->Int
|[] => -1
|i::l=>if named slots name i then i else colL slots name l
def col (x:Vr)(name:ByteArray):Int:=colL x.slots name x.cols
def bare (s:Sl)(nm ty:Bool):Bool:=(nm || decide (s.name.size=0)) && (ty || s.types == 0) && !s.req && (s.dv.cmp zeroV == 0)
def column (x:Vr)(s:Stp):Bool:=decide (0<=s.col) && decide (s.col<x.cols.length) && decide (s.order.length=0)
def addS (x:Vr)(s:Stp):Option Vr :=
 if s.col=0/\s.order.length=0/\x.cols.length<8/\sound s.slot=true/\s.slot.req=false/\col x s.slot.name<0 then some ⟨x.slots++[s.slot],x.cols++[x.slots.length]⟩else none
def loseS (x:Vr)(s:Stp):Option Vr :=
 if column x s=true/\bare s.slot false false=true/\x.cols.length≠1 then some ⟨x.slots,x.cols.eraseIdx s.col.toNat⟩else none
def at_ (x:Vr)(s:Stp):Nat:=x.cols.getD s.col.toNat 0
def renameS (x:Vr)(s:Stp):Option Vr :=
 if column x s=true/\bare s.slot true false=true/\V.isName s.slot.name.data.toList=true/\col x s.slot.name<0 then some ⟨x.slots.modify (at_ x s) λy=>{y with name:=s.slot.name},x.cols⟩else none
def widenS (x:Vr)(s:Stp):Option Vr :=
 if column x s=true/\bare s.slot false true=true/\takes s.slot.types=true/\(x.slots[at_ x s]?).any (λy=>bits .or .i64 y.types s.slot.types != y.types)=true then some ⟨x.slots.modify (at_ x s) λy=>{y with types:=bits .or .i64 y.types s.slot.types},x.cols⟩else none
def reo (cols:List Nat):List Int->List Nat->Option (List Nat)
|[],out=>some out
|k::l,out=>if 0<=k/\k<cols.length/\cols.getD k.toNat 0∉out then reo cols l (out++[cols.getD k.toNat 0])else none
def reorderS (x:Vr)(s:Stp):Option Vr :=
 if s.col=0/\bare s.slot false false=true/\s.order.length=x.cols.length then(reo x.cols s.order []).map λc=>⟨x.slots,c⟩else none
def stepV (x:Vr)(s:Stp):Option Vr :=
 if s.kind=1 then addS x s else if s.kind=2 then loseS x s else if s.kind=3 then renameS x s else if s.kind=4 then widenS x s else if s.kind=5 then reorderS x s else none
def firstL:List Sl->Vr->Option Vr
|[],x=>some x
|s::l,x=>if sound s=true/\col x s.name<0 then firstL l ⟨x.slots++[s],x.cols++[x.slots.length]⟩else none
def firstV (t:Tm):Option Vr :=
 if V.isName t.name.data.toList=true/\1<=t.slots.length/\t.slots.length<=8/\t.steps.length<=8 then firstL t.slots ⟨[],[]⟩else none
def versL:Vr->List Stp->List Vr
|_,[]=>[]
|x,s::l=>match stepV x s with
  | none=>[]
  | some y=>y::versL y l
def vers (t:Tm):List Vr:=match firstV t with
|none=>[]
|some x=>x::versL x t.steps
def last (t:Tm):Nat:=if (vers t).length=t.steps.length+1 then t.steps.length+1 else 0
def ver (t:Tm)(v:Int):Option Vr:=if 0<last t/\1<=v then(vers t)[(v - 1).toNat]? else none
structure VOk (n:Nat)(x:Vr):Prop where
 ls:x.slots.length<=n
 lc:1<=x.cols.length
 lc8:x.cols.length<=8
 cs:∀c∈x.cols,c<x.slots.length
 ok:∀s∈x.slots,s.Ok
end Sch
theorem fA:Fm prog 50 (λl:List Int=>[D.sl .shared (l.map Bl)]) λl=>(∀x∈l,(Lit.int .i64 x).wf=true)/\l.length<=maxLen :=
 Dp (sz:=1) Tryz.underlying50 (by kernel_rfl) q_o (Cw (k:=.i64) Tryz.underlying3) (λ_=>rfl) λ_ d hd=>by
  rw[show∀x:Int,Bl x=[D.i x] fromλ_=>rfl,AB]at hd;subst hd;rfl
theorem Sl.cells_leaf(s:Sl):∀d∈s.cells,d.leaf=true:=by
 intro d hd
 unfold Sl.cells at hd
 simp only[Ax]at hd
 rcases hd with rfl|rfl|rfl|hd
 . rfl
 . rfl
 . rfl
 . exact V.cells_leaf _ d hd
theorem XS:Fm prog 184 Sl.cells Sl.Ok:=by
 intro n H enc W fuel cs x hf h
 obtain⟨xs,m,rfl, -,hl,hn,hx⟩:=Cy Tryz.underlying184 h
 have hl7:cs.length=7:=hl.trans (by kernel_rfl)
 obtain⟨a,a1,a2⟩:=AZ (i:=0) (n:=m) (f:=λa:ByteArray=>[D.str a]) hx hn rfl (k:=1) (by kernel_rfl) (Im Tryz.underlying9 _) (Ap _)
 obtain⟨b,b1,b2⟩:=AZ (i:=1) (n:=m) (f:=λa:Int=>[D.i a]) hx hn rfl (k:=1) (by kernel_rfl) (Cw (k:=.i64) Tryz.underlying3 _) (Ap _)
 obtain⟨c,c1, -⟩:=AZ (i:=2) (n:=m) (f:=λa:Bool=>[D.b a]) hx hn rfl (k:=1) (by kernel_rfl) (LY Tryz.underlying4 _) (Ap _)
 obtain⟨d,d1,d2⟩:=AZ (i:=3) (n:=m) (f:=V.cells) hx hn rfl (k:=4) (by kernel_rfl) (Pd _) (Ap _)
 refine⟨⟨a,b,c,d⟩,?_,a2,EM b2,d2⟩
 have:=RepL.glue a1 (RepL.glue b1 (RepL.glue c1 (RepL.glue d1 (RepL.glue_end hl7))))
 rw[AY]at this
 exact this
def Stp.Wf (s:Stp):Prop:=(-9223372036854775808<=s.kind/\s.kind<=9223372036854775807)/\(-9223372036854775808<=s.col/\s.col<=9223372036854775807)/\s.slot.Ok/\s.order.length<=maxLen
theorem Stp.cells_len(s:Stp):s.cells.length=10:=by
 unfold Stp.cells
 rw[An,An,Ad,Sl.cells_len];rfl
theorem Stp.cells_leaf(s:Stp):∀d∈s.cells,d.leaf=true:=by
 intro d hd
 unfold Stp.cells at hd
 simp only[Ax,Bc,AP,or_false]at hd
 rcases hd with rfl|rfl|hd|rfl
 . rfl
 . rfl
 . exact Sl.cells_leaf _ d hd
 . rfl
theorem bU:Fm prog 186 Stp.cells Stp.Wf:=by
 intro n H enc W fuel cs x hf h
 obtain⟨xs,m,rfl, -,hl,hn,hx⟩:=Cy Tryz.underlying186 h
 have hl10:cs.length=10:=hl.trans (by kernel_rfl)
 obtain⟨a,a1,a2⟩:=AZ (i:=0) (n:=m) (f:=λa:Int=>[D.i a]) hx hn rfl (k:=1) (by kernel_rfl) (Cw (k:=.i64) Tryz.underlying3 _) (Ap _)
 obtain⟨b,b1,b2⟩:=AZ (i:=1) (n:=m) (f:=λa:Int=>[D.i a]) hx hn rfl (k:=1) (by kernel_rfl) (Cw (k:=.i64) Tryz.underlying3 _) (Ap _)
 obtain⟨c,c1,c2⟩:=AZ (i:=2) (n:=m) (f:=Sl.cells) hx hn rfl (k:=7) (by kernel_rfl) (XS _) (Ap _)
 obtain⟨d,d1, -,d2⟩:=AZ (i:=3) (n:=m) (f:=λl:List Int=>[D.sl .shared (l.map Bl)]) hx hn rfl (k:=1) (by kernel_rfl) (fA _) (Ap _)
 refine⟨⟨a,b,c,d⟩,?_,EM a2,EM b2,c2,d2⟩
 have:=RepL.glue a1 (RepL.glue b1 (RepL.glue c1 (RepL.glue d1 (RepL.glue_end hl10))))
 rw[AY]at this
 exact this
structure Tm.Wf (t:Tm):Prop where
 nm:t.name.size<=maxLen
 ss:∀s∈t.slots,s.Ok
 sl:t.slots.length<=maxLen
 ps:∀s∈t.steps,s.Wf
 pl:t.steps.length<=maxLen
theorem bV:Fm prog 81 (λl:List Sl=>[D.sl .shared (l.map Sl.cells)]) λl=>(∀x∈l,x.Ok)/\l.length<=maxLen :=
 Dp (sz:=7) Tryz.underlying81 (by kernel_rfl) q_o XS Sl.cells_len Sl.cells_leaf
theorem Zn:Fm prog 134 (λl:List Stp=>[D.sl .shared (l.map Stp.cells)]) λl=>(∀x∈l,x.Wf)/\l.length<=maxLen :=
 Dp (sz:=10) Tryz.underlying134 (by kernel_rfl) q_o bU Stp.cells_len Stp.cells_leaf
theorem fv:Fm prog 136 Tm.cells Tm.Wf:=by
 intro n H enc W fuel cs x hf h
 obtain⟨xs,m,rfl, -,hl,hn,hx⟩:=Cy Tryz.underlying136 h
 have hl3:cs.length=3:=hl.trans (by kernel_rfl)
 obtain⟨a,a1,a2⟩:=AZ (i:=0) (n:=m) (f:=λa:ByteArray=>[D.str a]) hx hn rfl (k:=1) (by kernel_rfl) (Im Tryz.underlying9 _) (Ap _)
 obtain⟨b,b1,b2,b3⟩:=AZ (i:=1) (n:=m) (f:=λl:List Sl=>[D.sl .shared (l.map Sl.cells)]) hx hn rfl (k:=1) (by kernel_rfl) (bV _) (Ap _)
 obtain⟨c,c1,c2,c3⟩:=AZ (i:=2) (n:=m) (f:=λl:List Stp=>[D.sl .shared (l.map Stp.cells)]) hx hn rfl (k:=1) (by kernel_rfl) (Zn _) (Ap _)
 refine⟨⟨a,b,c⟩,?_,⟨a2,b2,b3,c2,c3⟩⟩
 exact RepL.glue a1 (RepL.glue b1 (RepL.glue c1 (RepL.glue_end hl3)))
section
section
variable {P:Program} {r:Option Nat} {ro:Ro}
def il (ms:List Nat)(l:List Oper)(a c:Nat)(listed:Array Bool):Bool:=(List.range l.length).all λi=>i == a || i == c || listed.getD i false || match l[i]? with
|some o=>Dn o || Dh ms i a || Dh ms i c
|none=>true
theorem WT{ms:List Nat}{l:List Oper}{a c:Nat}{listed:Array Bool}(h:il ms l a c listed=true){i:Nat}{o:Oper}(ho:l[i]?=some o)(ha:i≠a)(hc:i≠c)(hl:listed.getD i false=false):Dn o=true\/Dh ms i a=true\/Dh ms i c=true:=by
 have:=AU.1 h i (Fu.2 (Af.1 ho).1)
 rw[ho]at this
 simpa [ha,hc,hl,or_assoc]using this
theorem VN{ms:List Nat}{l:List Oper}(hms:MOk .any l.toArray.toList ms){a c:Nat}{Q:AA->St->Prop}(hac:a≠c)(hl1:Bx (EO l a c).toArray=true->Bx l.toArray=true)(hl2:Bx (EO l c a).toArray=true->Bx l.toArray=true):∀(fuel:Nat) (listed:Array Bool) (A:AA) (st:St),listed.getD a false=false->listed.getD c false=false->DC .any l.toArray listed ->
 (∀(i:Nat) (o:Oper),l[i]?=some o->i≠a->i≠c->listed.getD i false=false->Dn o=true\/Dh ms i a=true\/Dh ms i c=true) ->
 Dg P r ro .any (EO l a c).toArray Q fuel listed A st->Dg P r ro .any (EO l c a).toArray Q fuel listed A st->Dg P r ro .any l.toArray Q fuel listed A st
|0,listed,A,st,ha,hc,hdc,hfr,h1,h2=>by
  refine⟨Cj.2 λi hi=>?_,h1.2⟩
  by_cases hia:i=a
  . have:=(Dc (l:=l) (x:=c) (y:=a)).2 ⟨hi,λe=>absurd (hia.symm.trans e) hac⟩
    rw[h2.1]at this;cases this
  . have:=(Dc (l:=l) (x:=a) (y:=c)).2 ⟨hi,λe=>absurd e hia⟩
    rw[h1.1]at this;cases this
|fuel+1,listed,A,st,ha,hc,hdc,hfr,h1,h2=>by
  refine⟨λh0=>h1.1 (Cj.2 λi hi=>?_),λi hi o ho=>?_⟩
  . have:=(Dc.1 hi).1
    rw[h0]at this;cases this
  . have ho':l[i]?=some o:=by simpa using ho
    obtain⟨o1,ho1,hs1⟩:=He (x:=a) (y:=c) ho'
    obtain⟨o2,ho2,hs2⟩:=He (x:=c) (y:=a) ho'
    by_cases hia:i=a
    . subst hia
      exact DE hs2 (Fb l c i) (FY hl2) (λA st=>IX hl2 fuel _ A st (JY hi)) (h2.2 i (Dc.2 ⟨hi,λe=>absurd e hac⟩) o2 (by simpa using ho2))
    . by_cases hic:i=c
      . subst hic
        exact DE hs1 (Fb l a i) (FY hl1) (λA st=>IX hl1 fuel _ A st (JY hi)) (h1.2 i (Dc.2 ⟨hi,λe=>absurd e hia⟩) o1 (by simpa using ho1))
      . have hil : listed.getD i false = false := by
         have:=(mem_ready.1 hi).1
         rw[Cv]at this |-
         cases hg:listed[i]? with
         | none=>rw[hg]at this;cases this
         | some b=>rw[hg]at this;exact this
        have hfo:Dn o=true:=by
         rcases hfr i o ho' hia hic hil with h|h|h
         . exact h
         . rw[hdc.ready hms ha hi]at h;cases h
         . rw[hdc.ready hms hc hi]at h;cases h
        have k1:=DE (f':=(decide (i+1=l.toArray.size) && Bx l.toArray)) hs1 (Fb l a c) (FY hl1) (λ_ _ h=>h) (h1.2 i (Dc.2 ⟨hi,λe=>absurd e hia⟩) o1 (by simpa using ho1))
        have k2:=DE (f':=(decide (i+1=l.toArray.size) && Bx l.toArray)) hs2 (Fb l c a) (FY hl2) (λ_ _ h=>h) (h2.2 i (Dc.2 ⟨hi,λe=>absurd e hic⟩) o2 (by simpa using ho2))
        refine DE (.refl o) (λ_=>rfl) id (λA st h=>?_) (Vd hfo k1 k2)
        refine VN hms hac hl1 hl2 fuel _ A st (by rw[getD_set_ne false hia];exact ha) (by rw[getD_set_ne false hic];exact hc) (hdc.step hi) (λj o hj h1 h2 h3=>hfr j o hj h1 h2 ?_) h.1 h.2
        cases hj2:listed.getD j false with
        | false=>rfl
        | true=>rw[getD_set_true hj2]at h3;cases h3
theorem Yn{l:List Oper}{a c:Nat}{listed:Array Bool}(h:DC .any l.toArray listed)(ha:listed.getD a false=false):DC .any (EO l a c).toArray listed:=by
 intro k o ho hk e he hb
 by_cases hka:k=a
 . subst hka
   rw[hk]at ha;cases ha
 . rw[Eo,KX,if_neg hka]at ho
   exact h k o (by rw[Eo];exact ho) hk e he hb
def WZ (ks:List Nat)(listed:Array Bool):Array Bool:=ks.foldl (λli k=>li.setIfInBounds k true) listed
def fG (ms:List Nat)(ops:Array Oper):List Nat->Array Bool->Bool
|[],_=>true
|k::ks,listed=>(Region.ready .any ops listed).contains k && KK ms ops listed k && fG ms ops ks (listed.setIfInBounds k true)
def W0 (P:Program)(r:Option Nat)(ro:Ro)(ops:Array Oper)(K:AA->St->Prop):List Oper->AA->St->Prop
|[],A,st=>K A st
|o::l,A,st=>CS P r ro false ops o (W0 P r ro ops K l) A st
def VY (P:Program)(r:Option Nat)(ro:Ro)(ops:Array Oper)(K:AA->St->Prop):List Nat->AA->St->Prop
|[],A,st=>K A st
|k::ks,A,st=>∀o,ops[k]?=some o->CS P r ro false ops o (VY P r ro ops K ks) A st
theorem Yx{ops:Array Oper}{ms:List Nat}(hms:MOk .any ops.toList ms)(hL:Kr ms ops){Q K:AA->St->Prop}{n:Nat}:∀(ks:List Nat) (listed:Array Bool) (A:AA) (st:St),Dj ro st->DC .any ops listed ->
 fG ms ops ks listed=true->(∀A st,Dj ro st->DC .any ops (WZ ks listed)->K A st->Dg P r ro .any ops Q n (WZ ks listed) A st)->VY P r ro ops K ks A st->Dg P r ro .any ops Q (ks.length+n) listed A st
|[],listed,A,st,hw,hdc,_,hk,h=>by
  rw[Cd,Bo]
  exact hk A st hw hdc h
|k::ks,listed,A,st,hw,hdc,hB,hk,h=>by
  simp only[fG,AF]at hB
  obtain⟨⟨hr,hf⟩,hB'⟩:=hB
  have hr':k∈Region.ready .any ops listed:=by simpa using hr
  obtain⟨-,o,h0, -⟩:=mem_ready.1 hr'
  rw[An,Nat.succ_add]
  refine JM hms hL h0 (ks.length+n) listed A st hw hdc (EI h0 hf) hr' ?_
  refine DE (.refl o) (λ_=>rfl) (f:=false) (λq=>by cases q) (λ_ _ h=>h) (EB hw (λv w' hc hq=>?_) (h o h0))
  exact Yx hms hL ks _ _ _ (hc.resolve_left (by simp)) (hdc.step hr') hB' hk hq
theorem XX{l:List Oper}{ops:Array Oper}(hs:∀(i:Nat) (o:Oper),ops[i]?=some o->∃o',l[i]?=some o'/\SameOp o' o)(hd:∀j:Nat,(l.toArray[j]?).bind (λo:Oper=>o.dst)=(ops[j]?).bind (λo:Oper=>o.dst)){K:AA->St->Prop}:∀(ks:List Nat) (A:AA) (st:St),
 W0 P r ro l.toArray K (ks.filterMap λk=>l[k]?) A st->VY P r ro ops K ks A st
|[],A,st,h=>h
|k::ks,A,st,h=>fun o ho=>by
  obtain⟨o',ho',hso⟩:=hs k o ho
  rw[DD,ho']at h
  exact DE hso hd id (λA st=>XX hs hd ks A st) h
theorem iC{ops:Array Oper}{o:Oper}{l:List Oper}{K:AA->St->Prop}{A:AA}{st:St}(hw:Ct ops o A.e=true)(h:S P r (some ro) o A st λd st'=>W0 P r ro ops K l (A.put o.dst d) st'):W0 P r ro ops K (o::l) A st:=by
 show CS P r ro false ops o _ A st
 unfold CS
 rw[if_pos hw]
 replace h:if Dn o then∃d,frC P ro o A.e=some d/\_ else _:=h
 split
 . rename_i hf;rw[if_pos hf]at h;exact h
 . rename_i hf
   rw[if_neg hf]at h
   obtain⟨h1,d,st',h2,h3⟩:=h
   exact⟨h1.mono λd st' hk=>⟨.inr hk.1,hk.2⟩,d,st',.inr h2,h3⟩
instance jz {ops:Array Oper}{K:AA->St->Prop}{A:AA}{st:St}{dst:Option Tmp}{op:Op}{ty:TypeId}{pos:String}{aft:Array Edge}{l:List Oper}:Go1 (W0 P r ro ops K (⟨dst,op,ty,pos,aft,none⟩::l) A st) (S P r (some ro) ⟨dst,op,ty,pos,aft,none⟩ A st λd st'=>W0 P r ro ops K l (A.put dst d) st'):=⟨iC (Kw rfl)⟩
instance kM {ops:Array Oper}{K:AA->St->Prop}{A:AA}{st:St}:Go1 (W0 P r ro ops K [] A st) (K A st):=⟨id⟩
inductive Plan where
|leaf (ks:List Nat)
|node (ks:List Nat)(a c:Nat)(p q:Plan)
inductive PlanL where
|leaf (t:List Oper)
|node (t:List Oper)(p q:PlanL)
def Plan.n:Plan->Nat
|.leaf ks=>ks.length
|.node ks _ _ p _=>ks.length+p.n
def Gy (l:List Oper):List Nat->List Oper
|[]=>[]
|k::ks=>match l[k]? with
  | some o=>o::Gy l ks
  | none=>Gy l ks
theorem KJ(l:List Oper):∀ks:List Nat,(ks.filterMap λk=>l[k]?)=Gy l ks
|[]=>rfl
|k::ks=>by
  rw[DD,Gy,KJ l ks]
  cases l[k]?<;>rfl
def Plan.lists (l:List Oper):Plan->PlanL
|.leaf ks=>.leaf (Gy l ks)
|.node ks _ _ p q=>.node (Gy l ks) (p.lists l) (q.lists l)
def lL (p q:Prop):Prop:=p/\q
theorem gx{p q:Prop}(h:p)(k:q):lL p q:=⟨h,k⟩
def wPL (P:Program)(r:Option Nat)(ro:Ro)(ops:Array Oper)(Q:AA->St->Prop):PlanL->AA->St->Prop
|.leaf t,A,st=>W P r (some ro) ops Q t A st
|.node t p q,A,st=>W0 P r ro ops (λA st=>lL (wPL P r ro ops Q p A st) (wPL P r ro ops Q q A st)) t A st
def Rs:Plan->List Oper->Array Bool->Bool
|.leaf ks,l,listed=>ks.all (λk=>decide (k<l.length)) && Gq (ER .any l []) l.toArray ks listed
|.node ks a c p q,l,listed=>ks.all (λk=>decide (k<l.length)) && fG (ER .any l []) l.toArray ks listed && (a != c && !(WZ ks listed).getD a false && !(WZ ks listed).getD c false && il (ER .any l []) l a c (WZ ks listed) && (Bx (EO l a c).toArray == Bx l.toArray) && (Bx (EO l c a).toArray == Bx l.toArray) && decide (p.n=q.n) && Rs p (EO l a c) (WZ ks listed) && Rs q (EO l c a) (WZ ks listed))
theorem SameOp.trans{a b c:Oper}(h:SameOp a b)(k:SameOp b c):SameOp a c:=⟨h.dst.trans k.dst,h.op.trans k.op,h.type.trans k.type,h.pos.trans k.pos,h.guard.trans k.guard⟩
theorem Vi(l:List Oper):Kr (ER .any l []) l.toArray:=λh j i hj hi hne=>by
 unfold Bx at h
 have:=AU.1 h i (Fu.2 q_o)
 rw[show l.toArray.size - 1=j by omega]at this
 exact this
theorem Ph(l0:List Oper){Q:AA->St->Prop}:∀(T:Plan) (l:List Oper) (listed:Array Bool) (A:AA) (st:St),l.length=l0.length->(∀(i:Nat) (o:Oper),l[i]?=some o->∃o',l0[i]?=some o'/\SameOp o' o)->(∀j:Nat,(l0.toArray[j]?).bind (λo:Oper=>o.dst)=(l.toArray[j]?).bind (λo:Oper=>o.dst))->(Bx l0.toArray=Bx l.toArray)->Dj ro st->DC .any l.toArray listed->Rs T l listed=true ->
 wPL P r ro l0.toArray Q (T.lists l0) A st->Dg P r ro .any l.toArray Q T.n listed A st
|.leaf ks,l,listed,A,st,hlen,hs,hd,hl,hC,hdc,hB,h=>by
  simp only[Rs,AF]at hB
  have hk:∀k∈ks,k<l0.length:=λk hk=>by
   have:=AU.1 hB.1 k hk
   rw[<-hlen];exact of_decide_eq_true this
  refine IG (Ho (md:=.any) l l [] (by simp) (λk i h=>by simp at h)) (Vi l) ks listed A st hC hdc hB.2 ?_
  refine Hc (l:=l0) (λi o ho=>hs i o (by simpa using ho)) hd (λh=>by rw[<-hl];exact h) ks A st hk ?_
  rw[KJ]
  exact h
|.node ks a c p q,l,listed,A,st,hlen,hs,hd,hl,hC,hdc,hB,h=>by
  simp only[Rs,AF,Cs,bne_iff_ne,ne_eq,decide_eq_true_eq,beq_iff_eq]at hB
  obtain⟨⟨hB0,hB1⟩,⟨⟨⟨⟨⟨⟨⟨⟨hac,hna⟩,hnc⟩,hfr⟩,hl1⟩,hl2⟩,hn⟩,hBp⟩,hBq⟩⟩:=hB
  have hk:∀k∈ks,k<l0.length:=λk hk=>by
   have:=AU.1 hB0 k hk
   rw[<-hlen];exact of_decide_eq_true this
  have hms:MOk .any l.toArray.toList (ER .any l []):=Ho (md:=.any) l l [] (by simp) (λk i h=>by simp at h)
  have same:∀x y,(∀(i:Nat) (o:Oper),(EO l x y)[i]?=some o->∃o',l0[i]?=some o'/\SameOp o' o):=λx y i o ho=>by
   have hi:i<l.length:=by
    have:=(Af.1 ho).1
    simpa [JJ]using this
   obtain⟨o1,ho1,hso⟩:=He (x:=x) (y:=y) (Al hi)
   rw[ho1]at ho
   cases ho
   obtain⟨o',h1,h2⟩:=hs i _ (Al hi)
   exact⟨o',h1,h2.trans hso.symm⟩
  refine Yx hms (Vi l) (n:=p.n) ks listed A st hC hdc hB1 (λA st hC hdc hK=>?_) (XX (l:=l0) (λi o ho=>hs i o (by simpa using ho)) hd ks A st (by rw[KJ];exact h))
  obtain⟨hp,hq⟩:=hK
  refine VN hms hac (λh=>by rw[<-hl1];exact h) (λh=>by rw[<-hl2];exact h) p.n _ A st hna hnc hdc (λi o ho h1 h2 h3=>WT hfr ho h1 h2 h3) ?_ ?_
  . exact Ph l0 p (EO l a c) _ A st (by rw[JJ];exact hlen) (same a c) (λj=>(hd j).trans (Fb l a c j).symm) (by rw[hl,hl1]) hC (Yn hdc hna) hBp hp
  . rw[hn]
    exact Ph l0 q (EO l c a) _ A st (by rw[JJ];exact hlen) (same c a) (λj=>(hd j).trans (Fb l c a j).symm) (by rw[hl,hl2]) hC (Yn hdc hnc) hBq hq
def ir (T:Plan)(l:List Oper):Bool:=decide (T.n=l.length) && Rs T l (Array.replicate l.length false)
theorem ei{N:Nat}{id:Nat}{l:List Oper}{X:PlanL}{A:AA}{st:St}{Q:Exit->AA->St->Prop}(T:Plan)(k:Tmp)(hk:l.head?.bind (λo=>o.dst)=some k)(hm:P.follows .mixedOrders=true)(hB:ir T l=true)(hok:GR N l=true)(hX:T.lists l=X)
 (h:nes st->wPL P r (Ly st) l.toArray (Q .normal) X A st):Tr P N r (.region id l.toArray true) A st Q:=by
 clear hk
 refine OF λhne=>?_
 intro ac w hr hh
 replace h:=h hne
 subst hX
 simp only[ir,AF,decide_eq_true_eq]at hB
 obtain⟨hn,hB⟩:=hB
 have hok':∀(i:Nat) (o:Oper),l.toArray[i]?=some o->JH N o.dst=true/\Gr N l.toArray o=true:=λi o ho=>by
  have:=AU.1 hok o (by simp at ho;exact Ah ho)
  simpa using this
 have he:=Ext.drew (OwnS st) w
 have dc:DC .any l.toArray (Array.replicate l.length false):=λk o _ hl=>absurd hl (by rw[IW];exact AJ)
 have hany:=Ph (P:=P) (r:=r) (ro:=Ly st) l T l (Array.replicate l.length false) A st rfl (λi o ho=>⟨o,ho,.refl o⟩) (λ_=>rfl) rfl (EL st) dc hB h
 rw[hn]at hany
 refine wpIn_region_any hm ?_
 have hsz:l.toArray.size=l.length:=by simp
 rw[hsz]
 exact Fo (Ho (md:=.any) l l [] (by simp) (λk i h=>by simp at h)) (Vi l) hok' _ _ A st ac w.drew _ (.inl (EL st)) dc (hr.ext he) (hh.drewN 1) hany λA' st' a' w' q1 q2 q3 q5=>⟨A',st',q1,q2,he.trans q3,q5⟩
class AppN (a b:List Oper)(c:outParam (List Oper)):Prop where
 go:List.append a b=c
instance lx {b:List Oper}:AppN [] b b:=⟨rfl⟩
instance jK {o:Oper}{a b c:List Oper}[h:AppN a b c]:AppN (o::a) b (o::c):=⟨congrArg (List.cons o) h.go⟩
instance lZ {m:Option Ro}{ops:Array Oper}{K:AA->St->Prop}{a b c:List Oper}{A:AA}{st:St}[h:AppN a b c]:Go2 (W P r m ops K (List.append a b) A st) (W P r m ops K c A st):=⟨λk=>by rw[h.go];exact k⟩
end
end
end Go.Proofs.YtoeidpmjifjplaaGreat
