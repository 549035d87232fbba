/- Texts put together. No statement is proved here. -/
import Derived.IntWalk
import Derived.Lib.AppendStr
import Derived.Laws.OwnMore
import Derived.OpenShut
import Derived.ShutString
import Derived.ChangeOld
import Derived.Below
import Derived.ProofKit
import Derived.Test.YtoeidpmjifjplaaGreatZ2
set_option linter.all false
set_option maxRecDepth 10000
set_option maxHeartbeats 8000000
namespace Go.Proofs.YtoeidpmjifjplaaGreat
open Go.RowKit
section
def AO (o:Oper):Bool :=
 match o.op with
|.move _|.assign _|.pick ..|.nilCheck _|.binOp ..|.unOp ..|.convert ..|.makeFunc ..|.extract ..|.field ..|.fieldAddr ..|.indexAddr ..|.index ..|.load ..|.slice ..|.build ..|.buildSlice ..|.box ..=>true
|.call {callee:=.builtin .len,..}=>true
|.call {callee:=.builtin .cap,..}=>true
|.call {callee:=.builtin .min,..}=>true
|.call {callee:=.builtin .max,..}=>true
|_=>false
abbrev Ro:=List (Nat×List D)
def frC (P:Program)(ro:Ro)(o:Oper)(e:Nat→D):Option D :=
 match o.op with
|.load t x=>match ev e x,Ag P t with
  | some (.ip cs),some ti=>Eb ti cs
  | some (.ptr b off),some ti=>match ro.lookup b with
   | some cs=>Eb ti (cs.drop off)
   | none=>none
  | _,_=>none
|_=>aOp P o e
def AL (ro:Ro)(st:St):Prop:=∀b cs,ro.lookup b=some cs→∃ty,Res.box b ty cs∈st
section
variable {P:Program} {r:Option Nat} {ro:Ro} {ops:Array Oper} {md:Region.Mode} {st:St}
theorem Gi{o:Oper}{e:Nat→D}{d:D}(hc:AL ro st)(h:frC P ro o e=some d):OpY P o e st d:=by
 unfold frC at h
 split at h
 · rename_i t x hop
   split at h
   · rename_i cs ti hx ht
     refine Mb ?_
     unfold aOp
     rw[hop]
     simp only[hx,ht]
     exact h
   · rename_i b off ti hx ht
     split at h
     · rename_i cs hl
       obtain⟨ty,hm⟩:=hc b cs hl
       intro ρ w hr hh
       have hp:=hr x (by simp[hop,Op.operands]) _ hx
       unfold execOp
       rw[hop]
       simp only
       generalize ρ x=p at hp
       cases hp
       obtain⟨v,k1,k2⟩:=Ea hh hm ht h
       exact⟨v,w,by simp only[Sem.run_bind,k1,Result.andThen_ok,Sem.run_pure],k2,hh,Ext.refl _ _⟩
     · cases h
   · cases h
 · exact Mb h
theorem Gk{e e':Nat→D}:∀{l:List Operand},(∀x∈l,ev e x=ev e' x)→evL e l=evL e' l
|[],_=>rfl
|x::l,h=>by unfold evL;rw[h x (List.mem_cons_self ..),Gk fun y hy=>h y (List.mem_cons_of_mem _ hy)]
theorem Iq{e e':Nat→D}:∀{l:List (Nat×Operand)},(∀x∈l,ev e x.2=ev e' x.2)→evP e l=evP e' l
|[],_=>rfl
|(i,x)::l,h=>by unfold evP;rw[h (i,x) (List.mem_cons_self ..),Iq fun y hy=>h y (List.mem_cons_of_mem _ hy)]
theorem Ug{o:Oper}{e e':Nat→D}(h:∀x∈o.op.operands,ev e x=ev e' x):aOp P o e=aOp P o e':=by
 unfold aOp
 cases hop:o.op<;>rw[hop] at h<;>simp only[Op.operands] at h ⊢
 case slice t x lo hi mx =>
  have ho:∀y:Option Operand,(∀z,y=some z→ev e z=ev e' z)→Cy e y=Cy e' y:=fun y hy=>by
   cases y with
   | none=>rfl
   | some z=>simp only[Cy,hy z rfl]
  rw[h x (by simp),ho lo fun z hz=>h z (by subst hz;simp),ho hi fun z hz=>h z (by subst hz;simp),ho mx fun z hz=>h z (by subst hz;simp)]
 case build t ps=>rw[Iq fun x hx=>h x.2 (by simp only[List.mem_toArray,List.mem_map];exact⟨x,hx,rfl⟩)]
 case buildSlice t n ps=>rw[Iq fun x hx=>h x.2 (by simp only[List.mem_toArray,List.mem_map];exact⟨x,hx,rfl⟩)]
 case makeFunc fn first caps=>rw[Gk fun x hx=>h x (by simp;exact .inl (by simpa using hx)),Gk fun x hx=>h x (by simp;exact .inr (by simpa using hx))]
 case call c=>rw[Gk fun x hx=>h x (by simp only[Call.operands,Array.mem_append];exact .inr (by simpa using hx))]
 case pick c x y=>rw[h c (by simp),h x (by simp),h y (by simp)]
 case binOp op t x y t'=>rw[h x (by simp),h y (by simp)]
 case indexAddr t x i=>rw[h x (by simp),h i (by simp)]
 case index t x i=>rw[h x (by simp),h i (by simp)]
 all_goals first|rfl|rw[h _ (by simp)]
theorem DE{o:Oper}{e e':Nat→D}(h:∀x∈o.op.operands,ev e x=ev e' x):frC P ro o e=frC P ro o e':=by
 unfold frC
 split
 · rename_i t x hop
   rw[h x (by simp[hop,Op.operands])]
 · exact Ug h
theorem Ii{o:Oper}{e e':Nat→D}{K:D→St→Prop}(h:∀x∈o.op.operands,ev e x=ev e' x)(hh:OpC P r o e st K):OpC P r o e' st K :=
 fun ρ w hr hw=>hh ρ w ⟨fun x hx d hd=>hr x hx d ((h x hx)▸hd),hr.cst⟩ hw
theorem aj{e:Nat→D}{dst:Option Tmp}{u:D}{x:Operand}(h:∀d,dst=some d→x≠.tmp d):ev (upd e dst u) x=ev e x:=by
 cases dst with
|none=>rfl
|some d =>
  cases x with
  | tmp t =>
   have hne:t≠d:=fun e=>h d rfl (e▸rfl)
   simp[ev,upd,hne]
  | _=>rfl
theorem Fj{o:Oper}{e:Nat→D}{dst:Option Tmp}{u:D}(h:∀d,dst=some d→d∉o.looksAt ops):∀x∈o.op.operands,ev (upd e dst u) x=ev e x:=fun x hx=>aj fun d hd hxd=>h d hd (by
 subst hxd
 exact List.mem_append_left _ (List.mem_filterMap.2 ⟨.tmp d,by simpa using hx,rfl⟩))
theorem Cz{o:Oper}{e:Nat→D}{dst:Option Tmp}{u:D}(h:∀d,dst=some d→d∉o.looksAt ops):Au ops o (upd e dst u)=Au ops o e:=by
 cases dst with
|none=>rfl
|some d =>
  unfold Au
  cases hg:o.guard with
  | none=>rfl
  | some q =>
   obtain⟨j,want⟩:=q
   dsimp only
   cases ht:(ops[j]?).bind (·.dst) with
   | none=>rfl
   | some t =>
    have hne:t≠d:=fun e=>h d rfl (by
     subst e
     refine List.mem_append_right _ ?_
     rw[hg]
     simp[ht])
    simp[upd,hne]
theorem Ur(e:Nat→D){x y:Option Tmp}(v u:D)(h:∀d,x=some d→y≠some d):upd (upd e x v) y u=upd (upd e y u) x v:=by
 cases x with
|none=>rfl
|some d =>
  cases y with
  | none=>rfl
  | some t =>
   have hne:d≠t:=fun he=>h d rfl (he▸rfl)
   funext i
   simp only[upd]
   by_cases h1:i=t
   · rw[if_pos h1,if_neg (fun e=>hne (e.symm.trans h1)),if_pos h1]
   · rw[if_neg h1]
     by_cases h2:i=d
     · rw[if_pos h2,if_pos h2]
     · rw[if_neg h2,if_neg h2,if_neg h1]
theorem Jw(A:AA){x y:Option Tmp}(v u:D)(h:∀d,x=some d→y≠some d):(A.put x v).put y u=(A.put y u).put x v:=by
 unfold AA.put;dsimp only;rw[Ur A.e v u h]
def Ai (ops:Array Oper):Bool:=(List.range (ops.size - 1)).all fun i=>AK (BE .any ops.toList []) (ops.size - 1) i
def KP (ro:Ro)(f:Bool)(st:St):Prop:=f=true∨AL ro st
def AD (P:Program)(r:Option Nat)(ro:Ro)(f:Bool)(ops:Array Oper)(o:Oper)(K:AA→St→Prop)(A:AA)(st:St):Prop :=
 if Au ops o A.e then
  if AO o then∃d,frC P ro o A.e=some d∧K (A.put o.dst d) st
  else OpC P r o A.e st (fun d st'=>KP ro f st'∧K (A.put o.dst d) st')∧∃d st',KP ro f st'∧K (A.put o.dst d) st'
 else K (A.put o.dst D.un) st
def BI (P:Program)(r:Option Nat)(ro:Ro)(ops:Array Oper)(Q:AA→St→Prop):List Oper→AA→St→Prop
|[],A,st=>Q A st
|o::rest,A,st=>AD P r ro (rest.isEmpty && Ai ops) ops o (BI P r ro ops Q rest) A st
def AJ (P:Program)(r:Option Nat)(ro:Ro)(md:Region.Mode)(ops:Array Oper)(Q:AA→St→Prop):Nat→Array Bool→AA→St→Prop
|0,listed,A,st=>Region.ready md ops listed=[]∧Q A st
|fuel+1,listed,A,st=>(Region.ready md ops listed=[]→Q A st)∧∀i∈Region.ready md ops listed,∀o,ops[i]?=some o→AD P r ro (decide (i+1=ops.size) && Ai ops) ops o (AJ P r ro md ops Q fuel (listed.setIfInBounds i true)) A st
theorem Bs{f:Bool}{o:Oper}{A:AA}{K K':AA→St→Prop}(hw:AL ro st)(h:∀d st',KP ro f st'→K (A.put o.dst d) st'→K' (A.put o.dst d) st')(hh:AD P r ro f ops o K A st):AD P r ro f ops o K' A st:=by
 unfold AD at *
 split
 · rename_i hwt
   rw[if_pos hwt] at hh
   split
   · rename_i hf
     rw[if_pos hf] at hh
     obtain⟨d,h1,h2⟩:=hh
     exact⟨d,h1,h _ _ (.inr hw) h2⟩
   · rename_i hf
     rw[if_neg hf] at hh
     obtain⟨h1,d,st',h2,h3⟩:=hh
     exact⟨h1.mono fun d st' hk=>⟨hk.1,h _ _ hk.1 hk.2⟩,d,st',h2,h _ _ h2 h3⟩
 · rename_i hwt
   rw[if_neg hwt] at hh
   exact h _ _ (.inr hw) hh
theorem DB{f:Bool}{o:Oper}{A:AA}{K:AA→St→Prop}(hw:AL ro st)(hh:AD P r ro f ops o K A st):∃d st',KP ro f st'∧K (A.put o.dst d) st':=by
 unfold AD at hh
 split at hh
 · split at hh
   · obtain⟨d,_,h2⟩:=hh;exact⟨d,st,.inr hw,h2⟩
   · exact hh.2
 · exact⟨D.un,st,.inr hw,hh⟩
theorem EJ{f:Bool}{oi oj:Oper}(hap:oi.apart ops oj=true){A:AA}{u:D}{K:AA→St→Prop}(h:AD P r ro f ops oi (fun A' st'=>K (A'.put oj.dst u) st') A st):AD P r ro f ops oi K (A.put oj.dst u) st:=by
 obtain⟨h1,h2,h3⟩:=Oper.apart_spec hap
 have hc:∀v,(A.put oj.dst u).put oi.dst v=(A.put oi.dst v).put oj.dst u:=fun v=>(Jw A v u h2).symm
 unfold AD at *
 show if Au ops oi (upd A.e oj.dst u) then _ else _
 rw[Cz h3]
 simp only[hc]
 split
 · rename_i hw
   rw[if_pos hw] at h
   split
   · rename_i hf
     rw[if_pos hf] at h
     obtain⟨d,k1,k2⟩:=h
     exact⟨d,(DE (Fj h3)).trans k1,k2⟩
   · rename_i hf
     rw[if_neg hf] at h
     exact⟨Ii (fun x hx=>(Fj h3 x hx).symm) h.1,h.2⟩
 · rename_i hw
   rw[if_neg hw] at h
   exact h
def Fu (ms:List Nat)(ops:Array Oper):Prop:=Ai ops=true→∀j i,j+1=ops.size→i<ops.size→i≠j→AK ms j i=true
theorem ER{ms : List Nat}(hms:MOk md ops.toList ms)(hL:Fu ms ops){Q:AA→St→Prop}{i:Nat}{oi:Oper}(hi:ops[i]?=some oi) :
 ∀(fuel:Nat) (listed:Array Bool) (A:AA) (st:St),AL ro st→DC md ops listed →
  (∀j oj,ops[j]?=some oj→j≠i→listed.getD j true=false→AK ms j i=false→oi.apart ops oj=true∧(AO oi=true∨AO oj=true)) →
  i∈Region.ready md ops listed →
  AD P r ro (decide (i+1=ops.size) && Ai ops) ops oi (AJ P r ro md ops Q fuel (listed.setIfInBounds i true)) A st→AJ P r ro md ops Q (fuel+1) listed A st:=by
 intro fuel
 induction fuel with
|zero =>
  intro listed A st hw _ _ hr H
  refine⟨fun h=>(by rw[h] at hr;cases hr),fun j hj oj hoj=>?_⟩
  by_cases hji:j=i
  · subst hji
    rw[hi] at hoj;cases hoj
    exact H
  · obtain⟨v,w',_,h1⟩:=DB hw H
    have:=ready_mono hj hji
    rw[h1.1] at this
    cases this
|succ fuel ih =>
  intro listed A st hw hdc hfree hr H
  refine⟨fun h=>(by rw[h] at hr;cases hr),fun j hj oj hoj=>?_⟩
  by_cases hji:j=i
  · subst hji
    rw[hi] at hoj;cases hoj
    exact H
  · obtain⟨hjun,oj',hoj',hall⟩:=mem_ready.1 hj
    rw[hoj] at hoj';cases hoj'
    have hnot:=hdc.ready hms (CI hr) hj
    have hfj0:(decide (j+1=ops.size) && Ai ops)=false:=by
     by_cases hc:(decide (j+1=ops.size) && Ai ops)=true
     · rw[Bool.and_eq_true,decide_eq_true_eq] at hc
       have:=hL hc.2 j i hc.1 (Array.getElem?_eq_some_iff.1 hi).1 (Ne.symm hji)
       rw[hnot] at this;cases this
     · simpa using hc
    have hdc':=hdc.step hj
    obtain⟨hap,hfk⟩:=hfree j oj hoj hji hjun hnot
    obtain⟨d1,d2,d3⟩:=Oper.apart_spec hap
    have hfree':∀k ok,ops[k]?=some ok→k≠i→(listed.setIfInBounds j true).getD k true=false →
     AK ms k i=false→oi.apart ops ok=true∧(AO oi=true∨AO ok=true):=fun k ok hk hki hun hno=>by
     refine hfree k ok hk hki ?_ hno
     by_cases hjk:j=k
     · subst hjk;exact hjun
     · rw[getD_set_ne true hjk] at hun;exact hun
    have hri:=ready_mono hr (Ne.symm hji)
    have hcomm:(listed.setIfInBounds j true).setIfInBounds i true=(listed.setIfInBounds i true).setIfInBounds j true:=Array.setIfInBounds_comm _ _ hji
    have hij:∀v st',AJ P r ro md ops Q (fuel+1) (listed.setIfInBounds i true) (A.put oi.dst v) st' →
     AD P r ro (decide (j+1=ops.size) && Ai ops) ops oj (AJ P r ro md ops Q fuel ((listed.setIfInBounds j true).setIfInBounds i true)) (A.put oi.dst v) st':=fun v st' h=>by
     rw[hcomm];exact h.2 j (ready_mono hj hji) oj hoj
    have hjw:∀v,Au ops oj (A.put oi.dst v).e=Au ops oj A.e:=fun v=>Cz d1
    have hje:∀v,frC P ro oj (A.put oi.dst v).e=frC P ro oj A.e:=fun v=>DE (Fj d1)
    have hput:∀v u,(A.put oi.dst v).put oj.dst u=(A.put oj.dst u).put oi.dst v:=fun v u=>Jw A v u d2
    by_cases hwj:Au ops oj A.e=true
    · by_cases hfj:AO oj=true
      · obtain⟨v1,w1,hc1,k1⟩:=DB hw H
        have k2:=hij v1 w1 k1
        unfold AD at k2
        rw[hjw v1,if_pos hwj,if_pos hfj,hje v1] at k2
        obtain⟨u,hu,_⟩:=k2
        have hstep:AD P r ro (decide (i+1=ops.size) && Ai ops) ops oi (AJ P r ro md ops Q fuel ((listed.setIfInBounds j true).setIfInBounds i true)) (A.put oj.dst u) st:=by
         refine EJ hap (Bs hw (fun v w' hc h=>?_) H)
         have k3:=hij v w' h
         unfold AD at k3
         rw[hjw v,if_pos hwj,if_pos hfj,hje v] at k3
         obtain⟨u',hu',k4⟩:=k3
         rw[hu] at hu'
         cases hu'
         exact k4
        unfold AD
        rw[if_pos hwj,if_pos hfj]
        exact⟨u,hu,ih _ _ _ hw hdc' hfree' hri hstep⟩
      · have hfi:AO oi=true:=hfk.resolve_right hfj
        have key:∀v,AJ P r ro md ops Q (fuel+1) (listed.setIfInBounds i true) (A.put oi.dst v) st→(∀u st',AL ro st'→AJ P r ro md ops Q fuel ((listed.setIfInBounds j true).setIfInBounds i true) ((A.put oj.dst u).put oi.dst v) st'→AD P r ro (decide (i+1=ops.size) && Ai ops) ops oi (AJ P r ro md ops Q fuel ((listed.setIfInBounds j true).setIfInBounds i true)) (A.put oj.dst u) st') →
         AD P r ro (decide (j+1=ops.size) && Ai ops) ops oj (AJ P r ro md ops Q (fuel+1) (listed.setIfInBounds j true)) A st:=fun v h hback=>by
         have k3:=hij v st h
         unfold AD at k3 ⊢
         rw[hjw v,if_pos hwj,if_neg hfj] at k3
         rw[if_pos hwj,if_neg hfj]
         obtain⟨k4,u,st',k5,k6⟩:=k3
         refine⟨(Ii (Fj d1) k4).mono fun u st' hk=>⟨hk.1,?_⟩,u,st',k5,?_⟩
         · have hk2:=hk.2
           rw[hput v u] at hk2
           have hk1:=hk.1.resolve_left (by rw[hfj0];exact Bool.false_ne_true)
           exact ih _ _ _ hk1 hdc' hfree' hri (hback u st' hk1 hk2)
         · rw[hput v u] at k6
           have hk1:=k5.resolve_left (by rw[hfj0];exact Bool.false_ne_true)
           exact ih _ _ _ hk1 hdc' hfree' hri (hback u st' hk1 k6)
        have hiw:∀u,Au ops oi (A.put oj.dst u).e=Au ops oi A.e:=fun u=>Cz d3
        have hie:∀u,frC P ro oi (A.put oj.dst u).e=frC P ro oi A.e:=fun u=>DE (Fj d3)
        unfold AD at H
        by_cases hwi:Au ops oi A.e=true
        · rw[if_pos hwi,if_pos hfi] at H
          obtain⟨v,hv,h⟩:=H
          refine key v h fun u w' hc hk=>?_
          unfold AD
          rw[hiw u,if_pos hwi,if_pos hfi,hie u]
          exact⟨v,hv,hk⟩
        · rw[if_neg hwi] at H
          refine key D.un H fun u w' hc hk=>?_
          unfold AD
          rw[hiw u,if_neg hwi]
          exact hk
    · have hstep : AD P r ro (decide (i + 1 = ops.size) && Ai ops) ops oi (AJ P r ro md ops Q fuel ((listed.setIfInBounds j true).setIfInBounds i true)) (A.put oj.dst D.un) st := by
       refine EJ hap (Bs hw (fun v w' hc h=>?_) H)
       have k3:=hij v w' h
       unfold AD at k3
       rw[hjw v,if_neg hwj] at k3
       exact k3
      unfold AD
      rw[if_neg hwj]
      exact ih _ _ _ hw hdc' hfree' hri hstep
def FI (ms:List Nat)(ops:Array Oper)(listed:Array Bool)(i:Nat):Bool :=
 match ops[i]? with
|none=>false
|some oi=>(List.range ops.size).all fun j=>j == i || listed.getD j true || match ops[j]? with
  | some oj=>AK ms j i || (oi.apart ops oj && (AO oi || AO oj))
  | none=>true
theorem Bx{ms:List Nat}{i:Nat}{oi:Oper}{listed:Array Bool}(hi:ops[i]?=some oi)(h:FI ms ops listed i=true)(j:Nat)(oj:Oper)
 (hj:ops[j]?=some oj)(hne:j≠i)(hun:listed.getD j true=false)(hno:AK ms j i=false) :
 oi.apart ops oj=true∧(AO oi=true∨AO oj=true):=by
 simp only[FI,hi,List.all_eq_true,List.mem_range] at h
 have h1:=h j (Array.getElem?_eq_some_iff.1 hj).1
 simpa [hj,hne,hun,hno] using h1
def CK (md:Region.Mode)(ms:List Nat)(ops:Array Oper):Nat→Nat→Array Bool→Bool
|0,_,listed=>(Region.ready md ops listed).isEmpty
|fuel+1,k,listed=>(Region.ready md ops listed).contains k && FI ms ops listed k && CK md ms ops fuel (k+1) (listed.setIfInBounds k true)
def EI (md:Region.Mode)(ops:Array Oper):Bool:=CK md (BE md ops.toList []) ops ops.size 0 (Array.replicate ops.size false)
theorem Gy{ms:List Nat}(hms:MOk md ops.toList ms)(hL:Fu ms ops){Q:AA→St→Prop}:∀(l:List Oper) (k:Nat) (listed:Array Bool) (A:AA) (st:St),AL ro st→DC md ops listed→(∀j,l[j]?=ops[k+j]?) →
 CK md ms ops l.length k listed=true→BI P r ro ops Q l A st→AJ P r ro md ops Q l.length listed A st
|[],_,_,_,_,_,_,_,hB,h=>⟨by simpa [CK] using hB,h⟩
|o::l,k,listed,A,st,hw,hdc,hl,hB,h=>by
  have h0:ops[k]?=some o:=by simpa using (hl 0).symm
  simp only[List.length_cons,CK,Bool.and_eq_true] at hB
  obtain⟨⟨hr,hf⟩,hB'⟩:=hB
  have hlast:(decide (k+1=ops.size) && Ai ops)=(l.isEmpty && Ai ops):=by
   have hk:k<ops.size:=(Array.getElem?_eq_some_iff.1 h0).1
   have h1:=hl 1
   cases l with
   | nil =>
    have:ops[k+1]?=none:=by simpa using h1.symm
    have:=Array.getElem?_eq_none_iff.1 this
    rw[decide_eq_true q_o];rfl
   | cons o' l =>
    have:ops[k+1]?=some o':=by simpa using h1.symm
    have:=(Array.getElem?_eq_some_iff.1 this).1
    rw[decide_eq_false q_o];rfl
  refine ER hms hL h0 l.length listed A st hw hdc (Bx h0 hf) (by simpa using hr) ?_
  rw[hlast]
  have h:AD P r ro (l.isEmpty && Ai ops) ops o (BI P r ro ops Q l) A st:=h
  cases l with
  | nil =>
   refine Bs hw (fun v w' hc hk=>?_) h
   exact⟨by simpa [CK] using hB',hk⟩
  | cons o' l =>
   refine Bs hw (fun v w' hc hk=>?_) h
   exact Gy hms hL (o'::l) (k+1) _ _ _ (hc.resolve_left (by simp)) (hdc.step (by simpa using hr)) (fun j=>by have:=hl (j+1);simpa [Nat.add_assoc,Nat.add_comm 1 j] using this) hB' hk
theorem BP{N:Nat}{ms:List Nat}(hms:MOk md ops.toList ms)(hL:Fu ms ops){K:AA→St→Prop}(hok:∀(i:Nat) (o:Oper),ops[i]?=some o→EM N o.dst=true∧Cw N ops o=true):∀(fuel:Nat) (listed:Array Bool) (A:AA) (st:St) (a:Act) (w:World) (Q:Exit→Act→World→Prop),(AL ro st∨Region.ready md ops listed=[])→DC md ops listed→RelA N (OwnS st) w a A→Holds st w→AJ P r ro md ops K fuel listed A st →
 (∀A' st' a' w',RelA N (OwnS st') w' a' A'→Holds st' w'→Ext (OwnS st) w (OwnS st') w'→K A' st'→Q .normal a' w')→wpAnyIn (FR r) 0 P md ops Q fuel listed a w
|0,listed,A,st,a,w,Q,hk,hdc,hr,hh,h,hQ=>⟨h.1,hQ A st a w hr hh (Ext.refl _ _) h.2⟩
|fuel+1,listed,A,st,a,w,Q,hk,hdc,hr,hh,h,hQ=>by
  refine⟨fun h0=>hQ A st a w hr hh (Ext.refl _ _) (h.1 h0),fun i hi=>?_⟩
  have hk:AL ro st:=hk.resolve_right fun h0=>by rw[h0] at hi;cases hi
  obtain⟨_,o,ho,_⟩:=mem_ready.1 hi
  obtain⟨hd,hg⟩:=hok i o ho
  have hm:=h.2 i hi o ho
  unfold wpOpIn
  simp only[ho]
  rw[GA hr ops o (Fi hg)]
  unfold AD at hm
  split
  · rename_i hw
    rw[if_pos hw] at hm
    refine Dp ?_
    have hC:OpC P r o A.e st fun d st'=>(AL ro st'∨Region.ready md ops (listed.setIfInBounds i true)=[])∧AJ P r ro md ops K fuel (listed.setIfInBounds i true) (A.put o.dst d) st':=by
     split at hm
     · obtain⟨d,k1,k2⟩:=hm
       exact(Gi hk k1).opC ⟨.inl hk,k2⟩
     · refine hm.1.mono fun d st' hkp=>⟨?_,hkp.2⟩
       rcases hkp.1 with hf|hf
       · refine .inr ?_
         rw[Bool.and_eq_true,decide_eq_true_eq] at hf
         refine List.eq_nil_iff_forall_not_mem.2 fun j hj=>?_
         obtain⟨hjun,oj,hoj,hall⟩:=mem_ready.1 hj
         have hji:j≠i:=fun e=>by
          subst e
          rw[Array.getD_eq_getD_getElem?] at hjun
          rcases Nat.lt_or_ge j listed.size with h1|h1
          · rw[Array.getElem?_setIfInBounds_self_of_lt h1] at hjun
            simp at hjun
          · rw[Array.getElem?_eq_none (by simpa using h1)] at hjun
            simp at hjun
         have hun:listed.getD j true=false:=by
          have:=hjun
          rwa[getD_set_ne true (Ne.symm hji)] at this
         have hun:listed.getD j false=false:=by
          rw[Array.getD_eq_getD_getElem?] at hun ⊢
          cases hq:listed[j]? with
          | none=>rfl
          | some b=>rw[hq] at hun;exact hun
         have h1:=hdc.ready hms hun hi
         rw[hL hf.2 i j hf.1 (Array.getElem?_eq_some_iff.1 hoj).1 hji] at h1
         cases h1
       · exact .inl hf
    exact(hC a.eval w (hr.repE _) hh).mono fun v w' ⟨d,st',k1,k2,k3,k4,k5⟩ =>
     BP hms hL hok fuel _ _ st' _ w' Q k4 (hdc.step hi) ((hr.ext k3).put hd k1) k2 k5 fun A' st'' a' w'' q1 q2 q3 q4=>hQ A' st'' a' w'' q1 q2 (k3.trans q3) q4
  · rename_i hw
    rw[if_neg hw] at hm
    exact⟨fun f _=>trivial,BP hms hL hok fuel _ _ st _ w Q (.inl hk) (hdc.step hi) (hr.put hd (.s undef rfl)) hh hm hQ⟩
theorem Ext.drew(O:Nat→Nat→Prop)(w:World):Ext O w O w.drew:=Ext.drewN O w 1
theorem Qv{N:Nat}{id:Nat}{l:List Oper}{A:AA}{Q:Exit→AA→St→Prop}(ro:Ro)(hm:P.follows .mixedOrders=true)(hB:EI .any l.toArray=true)(hok:CP N l=true)(hC:AL ro st)
 (h:BI P r ro l.toArray (Q .normal) l A st):Tr P N r (.region id l.toArray true) A st Q:=by
 intro a w h1 h2
 have hok':∀(i:Nat) (o:Oper),l.toArray[i]?=some o→EM N o.dst=true∧Cw N l.toArray o=true:=fun i o ho=>by
  have:=List.all_eq_true.1 hok o (by simp at ho;exact List.mem_of_getElem? ho)
  simpa using this
 have he:=Ext.drew (OwnS st) w
 have hms:=Df (md:=.any) l l [] (by simp) (fun k i h=>by simp at h)
 have hL:Fu (BE .any l []) l.toArray:=fun h j i hj hi hne=>by
  unfold Ai at h
  have:=List.all_eq_true.1 h i (List.mem_range.2 q_o)
  rw[show l.toArray.size - 1=j by omega] at this
  exact this
 have hdc:DC .any l.toArray (Array.replicate l.toArray.size false):=fun k o _ hl=>absurd hl (by rw[DU];exact Bool.false_ne_true)
 have hany:=Gy (P:=P) (r:=r) (ro:=ro) (md:=.any) hms hL (Q:=Q .normal) l 0 (Array.replicate l.toArray.size false) A st hC hdc (by simp) (by simpa [EI] using hB) h
 refine wpIn_region_any hm ?_
 have hsz:l.toArray.size=l.length:=by simp
 rw[hsz] at hany hdc ⊢
 exact BP hms hL hok' _ _ A st a w.drew _ (.inl hC) hdc (h1.ext he) (h2.drewN 1) hany fun A' st' a' w' q1 q2 q3 q5=>⟨A',st',q1,q2,he.trans q3,q5⟩
variable {Q:AA→St→Prop} {A:AA} {o:Oper} {rest:List Oper}
theorem Tg{dst:Option Tmp}(hdst:o.dst=dst)(hw:Au ops o A.e=false)(h:BI P r ro ops Q rest (A.put dst D.un) st):BI P r ro ops Q (o::rest) A st:=by
 subst hdst
 show AD P r ro _ ops o _ A st
 unfold AD
 rw[if_neg (by rw[hw];exact Bool.false_ne_true)]
 exact h
theorem Vu{K:AA→St→Prop}{dst:Option Tmp}(hdst:o.dst=dst)(hw:Au ops o A.e=false)(h:TrOps P r ops rest (A.put dst D.un) st K):TrOps P r ops (o::rest) A st K:=by
 subst hdst
 unfold TrOps;rw[if_neg (by rw[hw];exact Bool.false_ne_true)];exact h
theorem Ls:AL [] st:=fun _ _ h=>by cases h
end
end
section
section
variable {P:Program} {N:Nat} {r:Option Nat} {A:AA} {st:St} {Q:Exit→AA→St→Prop} {K:AA→St→Prop} {id id':Nat}
theorem OU(h:K A st):DI K Q .normal A st:=h
theorem Sb(h:Q .ret A st):DI K Q .ret A st:=h
theorem OV(h:Q (.exit id) A st):DI K Q (.exit id) A st:=h
theorem Wv(h:Q .normal A st):Eu id Q .normal A st:=h
theorem YG(h:Q .ret A st):Eu id Q .ret A st:=h
theorem Wu(h:Q .normal A st):Eu id Q (.exit id) A st:=by
 show if id=id then _ else _
 rw[if_pos rfl];exact h
theorem ay(hn:(id' == id)=false)(h:Q (.exit id') A st):Eu id Q (.exit id') A st:=by
 show if id'=id then _ else _
 rw[if_neg (by simpa using hn)];exact h
theorem bX{t t':Tmp}{d:D}:(A.put (some t) d).e t'=if t'=t then d else A.e t':=rfl
theorem Vl{d:D}:A.put none d=A:=rfl
theorem ZY{args:List D}{df:List Deferred}{t:Tmp}:(AA.mk (Gu args) df).e t=args.getD t D.un:=rfl
theorem Fv{ops:Array Oper}{o:Oper}{e:Nat→D}(h:o.guard=none):Au ops o e=true:=by unfold Au;rw[h]
variable {t:TypeId} {k:IntKind} {a b:Int}
theorem YT:Bp P .add t (.s (.int k a)) (.s (.int k b))=some (.s (.int k (k.wrap (a+b)))):=by simp[Bp,binOp,Op.intArith,BK];rfl
theorem YI:Bp P .sub t (.s (.int k a)) (.s (.int k b))=some (.s (.int k (k.wrap (a - b)))):=by simp[Bp,binOp,Op.intArith,BK];rfl
theorem YM:Bp P .mul t (.s (.int k a)) (.s (.int k b))=some (.s (.int k (k.wrap (a*b)))):=by simp[Bp,binOp,Op.intArith,BK];rfl
theorem YK(h:(b == 0)=false):Bp P .quo t (.s (.int k a)) (.s (.int k b))=some (.s (.int k (k.wrap (a.tdiv b)))):=by
 have:b≠0:=by simpa using h
 simp[Bp,binOp,Op.intDiv,BK,this];rfl
theorem YJ(h:(b == 0)=false):Bp P .rem t (.s (.int k a)) (.s (.int k b))=some (.s (.int k (a.tmod b))):=by
 have:b≠0:=by simpa using h
 simp[Bp,binOp,Op.intDiv,BK,this];rfl
theorem YS:Bp P .and t (.s (.int k a)) (.s (.int k b))=some (.s (.int k (bits .and k a b))):=by simp[Bp,binOp,intBits_and,BK];rfl
theorem az:Bp P .or t (.s (.int k a)) (.s (.int k b))=some (.s (.int k (bits .or k a b))):=by simp[Bp,binOp,intBits_or,BK];rfl
theorem YH:Bp P .xor t (.s (.int k a)) (.s (.int k b))=some (.s (.int k (bits .xor k a b))):=by simp[Bp,binOp,intBits_xor,BK];rfl
theorem PX:Bp P .andNot t (.s (.int k a)) (.s (.int k b))=some (.s (.int k (bits .andNot k a b))):=by simp[Bp,binOp,intBits_andNot,BK];rfl
theorem YR:Bp P .eql t (.s (.int k a)) (.s (.int k b))=some (.b (a == b)):=by simp[Bp,binOp,Op.intCmp,BK];rfl
theorem YL:Bp P .neq t (.s (.int k a)) (.s (.int k b))=some (.b (a != b)):=by simp[Bp,binOp,Op.intCmp,BK];rfl
theorem YN:Bp P .lss t (.s (.int k a)) (.s (.int k b))=some (.b (decide (a<b))):=by simp[Bp,binOp,Op.intCmp,BK];rfl
theorem YO:Bp P .leq t (.s (.int k a)) (.s (.int k b))=some (.b (decide (a≤b))):=by simp[Bp,binOp,Op.intCmp,BK];rfl
theorem YP:Bp P .gtr t (.s (.int k a)) (.s (.int k b))=some (.b (decide (b<a))):=by simp[Bp,binOp,Op.intCmp,BK];rfl
theorem YQ:Bp P .geq t (.s (.int k a)) (.s (.int k b))=some (.b (decide (b≤a))):=by simp[Bp,binOp,Op.intCmp,BK];rfl
theorem MO{k':IntKind}(h0:0≤b)(h1:b≤k.bits):Bp P .shr t (.s (.int k a)) (.s (.int k' b))=some (.s (.int k (a / 2 ^ b.toNat))):=by
 simp only[Bp]
 rw[show binOp .shr 0 (.int k a) (.int k' b)=Op.shift .shr k a k' b from rfl,shift_shr k k' a b h0 h1];rfl
theorem MP{k':IntKind}(h0:0≤b)(h1:b≤k.bits):Bp P .shl t (.s (.int k a)) (.s (.int k' b))=some (.s (.int k (k.wrap (a*2 ^ b.toNat)))):=by
 simp only[Bp]
 rw[show binOp .shl 0 (.int k a) (.int k' b)=Op.shift .shl k a k' b from rfl,shift_shl k k' a b h0 h1];rfl
theorem Zz{b:Bool}:aUn .not (.s (.bool b))=some (.b (!b)):=rfl
theorem ZA:aUn .neg (.s (.int k a))=some (.s (.int k (k.wrap (0 - a)))):=rfl
theorem Zy:aUn .xor (.s (.int k a))=some (.s (.int k (bits .xor k (if k.signed then -1 else k.max) a))):=rfl
theorem Xf{x y:ByteArray}:Bp P .eql t (.str x) (.str y)=some (.b (x.toList == y.toList)):=rfl
theorem Xe{x y:ByteArray}:Bp P .neq t (.str x) (.str y)=some (.b (!(x.toList == y.toList))):=rfl
theorem Xg{x y:ByteArray}(h:x.size+y.size≤9223372036854775807):Bp P .add t (.str x) (.str y)=some (.str (x++y)):=by
 have:¬(((x.size+y.size:Nat):Int) > IntKind.i64.max):=by
  show¬(_ > (9223372036854775807:Int));omega
 simp only[Bp,binOp,Op.stringOp,if_neg this];rfl
theorem i64_in{n:Int}(h1 : -9223372036854775808≤n)(h2:n≤9223372036854775807):IntKind.i64.wrap n=n:=IntWalk.i64_in n ⟨h1,h2⟩
theorem u8_in{n:Int}(h1:0≤n)(h2:n≤255):IntKind.u8.wrap n=n:=IntWalk.u8_in n ⟨h1,h2⟩
theorem ZK{ts:List Tmp}{X:D}{ex:Exit}{st0:St}(hex:ex=.normal∨ex=.ret)(hdf:A.df=[])(hs:st0.Sublist st)(hd:LE (Jr ts A.e) X):Nw ts (fun d st'=>d=X∧st'=st0) ex A st:=Ab hex hdf hs hd ⟨rfl,rfl⟩
theorem LEL.nil:LEL [] []:=trivial
theorem LEL.cons{d d':D}{l l':List D}(h:LE d d')(k:LEL l l'):LEL (d::l) (d'::l'):=⟨h,k⟩
theorem AF{a:List D}{n:Nat}(h:a.length=n):∀x∈[a],x.length=n:=fun x hx=>by
 rw[List.mem_singleton] at hx;subst hx;exact h
theorem IV{n:Nat}:∀x∈([]:List (List D)),x.length=n:=fun x hx=>by cases hx
end
attribute [push_cast] OJ if_pos if_neg ev evL Gu evP MM AN bX Vl ZY List.getD_cons_zero List.getD_cons_succ List.getD_nil if_true if_false ite_true ite_false YT YI YM YK YJ YS az YH PX YR YL YN YO YP YQ MO MP Zz ZA Zy Xf Xe Xg Mc Iy Dd Dc Iw Fh Cy Iv Ek Iz CG FW shZ Vz List.any_cons List.any_nil Bool.or_false Bool.false_or Bool.or_true Bool.true_or Option.isNone_none id_eq List.map_id List.map_id_fun WI aBi kT Eb D.cells D.sh D.leaf i64_in u8_in Option.map_some Option.bind_some Option.map_none Option.bind_none List.map_cons List.map_nil List.map_append Int.natCast_add List.length_cons List.length_nil List.length_map List.length_append List.drop_zero List.drop_succ_cons List.drop_nil List.take_succ_cons List.take_zero List.take_nil List.head?_cons List.getElem?_cons_zero List.getElem?_cons_succ List.getElem?_map List.all_cons List.all_nil Int.natCast_nonneg Int.toNat_natCast Int.ofNat_lt Int.ofNat_le Nat.add_zero Nat.zero_add Nat.zero_mul Nat.succ_pos Nat.lt_add_one Nat.lt_irrefl Int.lt_irrefl Value.oneCell' CJ and_self and_true true_and Bool.and_true Bool.true_and Bool.and_self Bool.not_true Bool.not_false decide_true decide_false beq_self_eq_true Bh List.cons_append List.nil_append List.append_nil Jr TI.k TI.sz TI.agg TI.zero decide_eq_true_eq List.replicate_succ List.replicate_zero List.flatten_cons List.flatten_nil Dv
end
section
section
variable {P:Program} {st:St} {w w':World} {O:Nat→Nat→Prop}
theorem Ht(h:Holds st w)(hb:Below w.heap.size w w')(hd:w.drawn≤w'.drawn):Holds st w'∧Ext (OwnS st) w (OwnS st) w':=by
 have he:Ext (OwnS st) w (OwnS st) w':=⟨hd,hb.os,hb.tape,hb.output,hb.size,fun _ _ _ h=>h,fun b hl _=>hb.block b hl,fun b c E fr hc=>⟨c,fr,(hb.block b (Array.getElem?_eq_some_iff.1 hc).1).trans hc,rfl,fun _ _=>rfl⟩⟩
 exact⟨h.keep he fun b hl=>hb.block b hl,he⟩
theorem MQ(h:Ext (OwnS []) w (OwnS []) w'):Below w.heap.size w w' :=
 ⟨h.os,h.tape,h.output,h.size,fun b hb=>h.block b hb fun off=>OwnS.nil b off⟩
theorem Im(w:World):Holds [] w:=⟨.nil,fun r hr=>by cases hr⟩
theorem JU{α:Type}{f:α→D}(l:List α):(l.map fun x=>[f x]).flatten=l.map f:=by
 induction l with
|nil=>rfl
|cons x l ih=>rw[List.map_cons,List.flatten_cons,ih];rfl
theorem Ni{α:Type}{f:α→Value}{v:Value}{o:Own}{l:List α}(h:Rep O w v (.sl o (l.map fun x=>[D.s (f x)]))):Sees f w v l:=by
 obtain⟨a,cap,us,sz,rfl,h1,h2,h3,h4,h5,h6,h7,h8,h9, -⟩:=Bo h
 rw[List.length_map] at *
 have hul:us.length=l.length:=by rw[h6.1,JU,List.length_map]
 refine⟨a,cap,rfl,h1,h2,h8,fun b hb hl=>?_⟩
 subst hb
 obtain⟨bk,off,e,c1,c2,c3⟩:=h9 0 q_o
 cases e
 refine⟨rfl,c1,fun i hi=>?_⟩
 obtain⟨bk',off',e',d1,d2,d3⟩:=h9 i q_o
 cases e'
 have hr:=h6.2 i q_o (by rw[←h6.1];omega)
 simp only[JU,List.getElem_map] at hr
 rw[d3,AX hr]
theorem Uz{f:FuncId}{args:List D}{X:D}(h:∀(vs:Array Value) w,RepL (OwnS st) w vs.toList args→∃v,(∀O w',Rep O w' v X)∧Calls P f vs w fun e w'=>e=.returned v∧Below w.heap.size w w'∧w.drawn≤w'.drawn):TrF P f args st fun d st'=>d=X∧st'=st:=by
 intro vs w hv hh
 obtain⟨v,hr,hc⟩:=h vs w hv
 refine hc.mono fun e w' ⟨he,hb,hd⟩=>⟨v,he,X,st,hr _ _,(Ht hh hb hd).1,(Ht hh hb hd).2,rfl,rfl⟩
theorem ZX{f:FuncId}{args:List D}{vs:Array Value}(h:TrF P f args [] fun d st'=>d=.b true∧st'=[])(hv:RepL (OwnS []) w vs.toList args):Calls P f vs w fun e w'=>e=.returned (.bool true)∧Below w.heap.size w w' :=
 (h vs w hv (Im w)).mono fun e w' ⟨v,he,d,st',h1,_,h3,h4,h5⟩=>by
  subst h4 h5
  exact⟨by rw[he,AX h1],MQ h3⟩
theorem cX{vs:Array Value}{d d':D}(h:RepL O w vs.toList [d,d']):∃v v',vs=#[v,v']∧Rep O w v d∧Rep O w v' d':=by
 obtain⟨l⟩:=vs
 obtain⟨u,u',e,h1,h2⟩:=RepL.two h
 dsimp only at e
 subst e
 exact⟨u,u',rfl,h1,h2⟩
end
end
section
section
variable {P:Program} {N:Nat} {r:Option Nat} {A:AA} {st:St} {w:World} {Q:Exit→AA→St→Prop} {K:AA→St→Prop} {l:List Oper} {ops:Array Oper} {o:Oper} {dst:Option Tmp} {ro:Ro} {f:FuncId} {args:List D} {R:D→St→Prop}
theorem Xa{c:Code}(h:Tr P N r c A st fun ex A' st'=>∃s,s.Sublist st'∧Q ex A' s):Tr P N r c A st Q:=by
 intro a w h1 h2
 refine wpIn_mono (h a w h1 h2) fun ex a' w' ⟨A',st',k1,k2,k3,s,k4,k5⟩=>?_
 have he:=Ext.drop (st:=st') (st':=s) (fun _ h=>k4.subset h) w'
 exact⟨A',s,k1.ext he,k2.sub k4,k3.trans he,k5⟩
theorem Qu{c:Code}{Q':Exit→AA→St→Prop}(h:Tr P N r c A st Q)(hq:∀ex A st,Q ex A st→Q' ex A st):Tr P N r c A st Q':=by
 intro a w h1 h2
 exact wpIn_mono (h a w h1 h2) fun ex a' w' ⟨A',st',k1,k2,k3,k4⟩=>⟨A',st',k1,k2,k3,hq _ _ _ k4⟩
theorem Aj{c:Code}{ι:Type}(I:ι→AA→St→Prop)(μ:ι→Nat)(i0:ι)(h0:I i0 A st)(hr:∀i A st,I i A st→Tr P N r c A st (DI (fun A' st'=>∃j s,s.Sublist st'∧I j A' s∧μ j<μ i) Q)):Tr P N r (.loop c) A st Q:=by
 refine Bq I μ i0 h0 fun i A st hi=>Xa (Qu (hr i A st hi) fun ex A' st' hq=>?_)
 cases ex with
|normal=>obtain⟨j,s,k1,k2,k3⟩:=hq;exact⟨s,k1,j,k2,k3⟩
|exit id=>exact⟨st',.refl _,hq⟩
|goto l=>exact⟨st',.refl _,hq⟩
|ret=>exact⟨st',.refl _,hq⟩
|panic c=>exact⟨st',.refl _,hq⟩
|outgrown=>exact⟨st',.refl _,hq⟩
def St.blks (st:St):List (Option Nat):=st.map Res.blk
def Gp:St→Ro
|[]=>[]
|.box b _ cs::s=>(b,cs)::Gp s
|.room ..::s=>Gp s
|.raw ..::s=>Gp s
|.know ..::s=>Gp s
theorem BA:∀st,AL (Gp st) st
|[]=>fun _ _ h=>by cases h
|.box b ty cs::s=>fun b' cs' h=>by
  unfold Gp at h
  rw[List.lookup_cons] at h
  split at h
  · rename_i he
    cases h
    have:b'=b:=eq_of_beq he
    subst this
    exact⟨ty,List.mem_cons_self ..⟩
  · obtain⟨ty',h'⟩:=BA s b' cs' h
    exact⟨ty',List.mem_cons_of_mem _ h'⟩
|.room ..::s=>fun b' cs' h=>by
  obtain⟨ty',h'⟩:=BA s b' cs' h
  exact⟨ty',List.mem_cons_of_mem _ h'⟩
|.raw ..::s=>fun b' cs' h=>by
  obtain⟨ty',h'⟩:=BA s b' cs' h
  exact⟨ty',List.mem_cons_of_mem _ h'⟩
|.know ..::s=>fun b' cs' h=>by
  obtain⟨ty',h'⟩:=BA s b' cs' h
  exact⟨ty',List.mem_cons_of_mem _ h'⟩
theorem Tk{b:Nat}{cs:List D}{s:Ro}:List.lookup b ((b,cs)::s)=some cs:=by simp[List.lookup]
theorem Yf{b b':Nat}{cs:List D}{s:Ro}(h:(b == b')=false):List.lookup b ((b',cs)::s)=List.lookup b s:=by simp[List.lookup,h]
def IJ (t:Tmp)(T:TypeId)(P:Program)(A:AA)(st:St)(d:D):Prop:=∃b off ty cs ti,A.e t=.ptr b off∧Res.box b ty cs∈st∧Ag P T=some ti∧Eb ti (cs.drop off)=some d
def XB (G:AA→St→D→Prop)(R:D→St→Prop):Exit→AA→St→Prop
|.normal,A,st|.ret,A,st=>∃(d0 d:D) (st':St),A.df=[]∧G A st d0∧st'.Sublist st∧LE d0 d∧R d st'
|_,_,_=>False
theorem Je{fn:Func}{c:Code}{G:AA→St→D→Prop}(hf:P.funcs[f]?=some fn)(hb:fn.body=some c)(hn:args.length≤fn.ntmps)(hres:∀{a A w st d},RelA fn.ntmps (OwnS st) w a A→Holds st w→G A st d→∃v,(results fn a.tmps).run P w=.ok v w∧Rep (OwnS st) w v d)
 (h:Tr P fn.ntmps none c ⟨Gu args,[]⟩ st (XB G R)):TrF P f args st R:=by
 intro vs w hv hw
 refine(callsIn_wide (n:=0)).1 (callsIn_of_wp_marks hf hb trivial ?_ rfl)
 have hvl:vs.size=args.length:=by rw[←Array.length_toList];exact hv.1
 have hrel:RelA fn.ntmps (OwnS st) w {tmps:=vs++Array.replicate (fn.ntmps - vs.size) undef,defers:=[]} ⟨Gu args,[]⟩:=by
  refine⟨by simp[hvl];omega,rfl,fun t=>?_⟩
  show Rep _ _ _ (args.getD t D.un)
  simp only[Array.getD_eq_getD_getElem?,List.getD_eq_getElem?_getD]
  rcases Nat.lt_or_ge t args.length with ht|ht
  · have h1:t<vs.toList.length:=by simp;omega
    have:=hv.2 t h1 ht
    rw[Array.getElem?_append_left q_o,List.getElem?_eq_getElem ht,Array.getElem?_eq_getElem q_o]
    simpa using this
  · rw[Array.getElem?_append_right q_o,List.getElem?_eq_none ht]
    simp only[Option.getD_none]
    by_cases h2:t - vs.size<fn.ntmps - vs.size
    · rw[Array.getElem?_replicate,if_pos h2]
      exact .s undef rfl
    · rw[Array.getElem?_replicate,if_neg h2]
      exact .s undef rfl
 refine wpIn_mono (h _ w hrel hw) fun ex a' w' ⟨A',st',k1,k2,k3,k4⟩=>?_
 have main:(∃(d0 d:D) (s:St),A'.df=[]∧G A' st' d0∧s.Sublist st'∧LE d0 d∧R d s)→LeavesInM (FR none) 0 P fn a'.tmps (fun e w'=>∃v,e=.returned v∧PostV st w R v w') a'.defers .returning w':=by
  rintro⟨d0,d,s,q1,q2,q3,q4,q5⟩
  rw[k1.2.1,q1]
  obtain⟨v,e1,e2⟩:=hres k1 k2 q2
  have he:=Ext.drop (st:=st') (st':=s) (fun _ h=>q3.subset h) w'
  exact⟨v,e1,v,rfl,d,s,q4 _ _ _ (e2.ext he),k2.sub q3,k3.trans he,q5⟩
 cases ex with
|normal=>exact main k4
|ret=>exact main k4
|exit id=>exact k4.elim
|goto l=>exact k4.elim
|panic c=>exact k4.elim
|outgrown=>exact k4.elim
theorem Nx{fn:Func}{t:Tmp}{T:TypeId}(hr:fn.results=#[.cell t T]){a:Act}{N:Nat}{d:D}(h1:RelA N (OwnS st) w a A)(h2:Holds st w)(h3:IJ t T P A st d):∃v,(results fn a.tmps).run P w=.ok v w∧Rep (OwnS st) w v d:=by
 obtain⟨b,off,ty,cs,ti,k1,k2,k3,k4⟩:=h3
 have hp:=h1.2.2 t
 rw[k1] at hp
 have hv:a.tmps.getD t undef=.pointer (some ⟨b,off,none⟩):=by
  generalize a.tmps.getD t undef=v at hp
  cases hp;rfl
 obtain⟨v,q1,q2⟩:=Ea h2 k2 k3 k4
 refine⟨v,?_,q2⟩
 have q3:(loadVar T ⟨b,off,none⟩).run P w=.ok v w:=by
  simpa [Instr.loadAt,Instr.sureAddr] using q1
 have hv':a.tmps[t]?.getD undef=.pointer (some ⟨b,off,none⟩):=by rw[←hv];simp
 simp[results,hr,hv',asAddr,q3]
theorem SA{t : Tmp}{T:TypeId}{ti:TI}{ex:Exit}{b off:Nat}{ty:TypeId}{cs:List D}{X d:D}{st0:St}{R:D→St→Prop}(hex:ex=.normal∨ex=.ret)(hdf:A.df=[])(hp:A.e t=.ptr b off)(hm:Res.box b ty cs∈st)(ht:Ag P T=some ti)(hd:Eb ti (cs.drop off)=some d)(hs:st0.Sublist st)(hl:LE d X)(hR:R X st0) :
 XB (IJ t T P) R ex A st:=by
 have:∃(d0 d:D) (st':St),A.df=[]∧IJ t T P A st d0∧st'.Sublist st∧LE d0 d∧R d st':=⟨d,X,st0,hdf,⟨b,off,ty,cs,ti,hp,hm,ht,hd⟩,hs,hl,hR⟩
 rcases hex with rfl|rfl<;>exact this
theorem TrF.permPost{st':St}(hp:st.Perm st')(h:TrF P f args st' fun d s=>∃s',R d s'∧s.Perm s'):TrF P f args st R:=by
 intro vs w h1 h2
 have e:=OwnS.perm hp
 refine(h vs w (by rw[←e];exact h1) (h2.perm hp)).mono fun _ _ ⟨v,ev,d,s,k1,k2,k3,s',k4,k5⟩=>⟨v,ev,d,s',by rw[←OwnS.perm k5];exact k1,k2.perm k5,by rw[e,←OwnS.perm k5];exact k3,k4⟩
theorem Sc(str:ByteArray):(str.data.map fun b=>Value.int .u8 b.toNat)=(Lib.strCells str).toArray:=by
 apply Array.ext'
 simp[Lib.strCells]
theorem Gn(T U ty e:TypeId)(i:TypeInfo)(ht:P.underlying T=some (.slice e))(hu:P.underlying U=some .string)(hi:P.info? e=some i)(a:Option Addr)(n cap:Nat)(hn:n≤cap)(str:ByteArray)(h0:str.size=0) :
 (Builtin.append_ #[T,U] ty #[.slice a n cap,.string str]).run P w=.ok (.slice a n cap) w:=by
 have hf:=Lib.run_firstCells_string (P:=P) w i.size str
 have hx:Lib.strCells str=[]:=List.eq_nil_of_length_eq_zero (by rw[Lib.strCells_length];exact h0)
 rw[h0,hx] at hf
 cases a<;>simp[Builtin.append_,run_underlying ht,run_underlying hu,sizeOf,typeInfo,hi,Builtin.lenOf,h0,hn,hf,storeCells]
theorem Kp(T U ty:TypeId){ti tu:TI}{e:TypeId}{sz bytes:Nat}{z:List Value}(ht:Ag P T=some ti)(hk:ti.k=.slice e sz bytes z)(htu:Ag P U=some tu)(hku:tu.k=.string)(hsz1:sz=1){o:Own}{es ys:List (List D)}{str:ByteArray}(hys':ys=str.data.toList.map Ad){v:Value}{s0:St}
 (h:Holds (.room o e sz es.length::s0) w)(hv:Rep (OwnS (.room o e sz es.length::s0)) w v (.sl o es))(ho:o≠.shared)
 (hes:∀a∈es,a.length=sz)(hb:(es.length+ys.length)*bytes≤140737488355328)(hm:es.length+ys.length≤140737488355328) :
 ∃v' w' o',o'≠.shared∧(Builtin.append_ #[T,U] ty #[v,.string str]).run P w=.ok v' w'∧Rep (OwnS (.room o' e sz (es++ys).length::s0)) w' v' (.sl o' (es++ys))∧Holds (.room o' e sz (es++ys).length::s0) w'∧Ext (OwnS (.room o e sz es.length::s0)) w (OwnS (.room o' e sz (es++ys).length::s0)) w':=by
 have hu:P.underlying U=some .string:=(Ap htu).2.2.1 hku
 obtain⟨d,hd, -,hkk⟩:=EZ ht
 rw[hk] at hkk
 obtain⟨i,hi,zv,hz,hzs,hsz0,hd',rfl,rfl,rfl⟩:∃i,P.info? e=some i∧∃zv,i.zero=some zv∧zv.cells.size=i.size∧0<i.size∧d=.slice e∧i.size=sz∧i.bytes=bytes∧zv.cells.toList=z:=by
  unfold Lr at hkk
  rw[hd] at hkk
  cases d<;>simp only at hkk<;>try(cases hkk;done)
  · rename_i e'
    cases hi:P.info? e' with
    | none=>simp[hi] at hkk
    | some i =>
     simp only[hi] at hkk
     cases hz:i.zero with
     | none=>simp[hz] at hkk
     | some zv =>
      simp only[hz] at hkk
      split at hkk
      · rename_i hq
        cases hkk
        exact⟨i,hi,zv,hz,hq.1,hq.2,rfl,rfl,rfl,rfl⟩
      · cases hkk
  · split at hkk<;>cases hkk
  · split at hkk<;>cases hkk
 subst hd'
 obtain⟨a,cap,us,sz1,rfl,c1,c2,c3,c4,c5,c6,c7,c8,c9,c10⟩:=Bo hv
 have hyl:str.size=ys.length:=by rw[hys',List.length_map,Array.length_toList];rfl
 obtain⟨xus,hxus⟩:∃xus,xus=Lib.strCells str:=⟨_,rfl⟩
 have hys:∀a∈ys,a.length=i.size:=fun a ha=>by rw[hys'] at ha;obtain⟨x, -,rfl⟩:=List.mem_map.1 ha;rw[hsz1];rfl
 have hyf:ys.flatten=str.data.toList.map D.y:=by rw[hys',show(str.data.toList.map Ad)=str.data.toList.map fun b=>[D.y b] from rfl,JU]
 have x6:RepL (OwnS (.room o e i.size es.length::s0)) w xus ys.flatten:=by
  rw[hxus,hyf]
  exact RepL.map fun x _=>.s _ rfl
 have x7:∀d∈ys.flatten,d.leaf=true:=fun d hd=>by
  rw[hyf] at hd
  obtain⟨x, -,rfl⟩:=List.mem_map.1 hd;rfl
 have hul:us.length=es.length*i.size:=by
  rw[c6.1];exact Bb hes
 have hxl:xus.length=ys.length*i.size:=by
  rw[x6.1];exact Bb hys
 by_cases hy:ys=[]
 · subst hy
   refine⟨_,w,o,ho,Gn T U ty e i hd hu hi a es.length cap c1 str hyl,?_,?_,?_⟩
   · simpa using hv
   · simpa using h
   · simpa using Ext.refl _ _
 · have hpos:0<ys.length:=List.length_pos_iff.2 hy
   have hfl:RepL (OwnS (.room o e i.size es.length::s0)) w (us++xus) (es++ys).flatten:=by rw[List.flatten_append];exact c6.append x6
   have hfleaf:∀d∈(es++ys).flatten,d.leaf=true:=fun d hd=>by
    rw[List.flatten_append,List.mem_append] at hd
    exact hd.elim (c7 d) (x7 d)
   have hfes:∀x∈es++ys,x.length=i.size:=fun x hx=>(List.mem_append.1 hx).elim (hes x) (hys x)
   have hful:(us++xus).length=(es.length+ys.length)*i.size:=by rw[List.length_append,hul,hxl,Nat.add_mul]
   have hmaxl:es.length+ys.length≤maxLen:=by unfold maxLen;omega
   have grow:∀old,(hlt:old<es.length+ys.length)→(hrun:(Builtin.append_ #[T,U] ty #[.slice a es.length cap,.string str]).run P w =
    .ok (.slice (some ⟨w.heap.size,0,none⟩) (es.length+ys.length) (grownCap w (es.length+ys.length) old e)) (w.drew.alloc (.cells (us.toArray++xus.toArray++Builtin.zeroCells zv.cells (grownCap w (es.length+ys.length) old e - (es.length+ys.length))) e))) →
    ∃v' w' o',o'≠.shared∧(Builtin.append_ #[T,U] ty #[.slice a es.length cap,.string str]).run P w=.ok v' w'∧Rep (OwnS (.room o' e i.size (es++ys).length::s0)) w' v' (.sl o' (es++ys))∧Holds (.room o' e i.size (es++ys).length::s0) w' ∧
     Ext (OwnS (.room o e i.size es.length::s0)) w (OwnS (.room o' e i.size (es++ys).length::s0)) w':=by
    intro old hlt hrun
    have hge:=grownCap_ge w (es.length+ys.length) old e
    have hcm:=grownCap_le_maxLen w (es.length+ys.length) old e hmaxl
    generalize grownCap w (es.length+ys.length) old e=nc at *
    have hl2:(es++ys).length=es.length+ys.length:=List.length_append
    have hg:=Lv (cap:=nc) h hfl hfleaf hsz0 hfes (by rw[hl2];exact hful) (by rw[hl2];exact hge) hcm (Builtin.zeroCells zv.cells (nc - (es.length+ys.length))).toList (by rw[Array.length_toList,size_zeroCells,hzs,hl2])
    have heq:(us.toArray++xus.toArray++Builtin.zeroCells zv.cells (nc - (es.length+ys.length)))=((us++xus)++(Builtin.zeroCells zv.cells (nc - (es.length+ys.length))).toList).toArray:=by simp
    rw[heq] at hrun
    rw[←hl2] at hrun
    exact⟨_,_,.row w.heap.size nc,by simp,by rw[hrun,hl2],hg.1,hg.2.1,hg.2.2⟩
   cases o with
   | shared=>exact absurd rfl ho
   | tight =>
    have hcap:cap=es.length:=c10
    subst hcap
    cases a with
    | none =>
     have h0:=c8 rfl
     have hes0:es=[]:=List.eq_nil_of_length_eq_zero h0
     have hus0:us=[]:=List.eq_nil_of_length_eq_zero (by rw[hul,h0,Nat.zero_mul])
     refine grow 0 q_o ?_
     rw[h0,hus0]
     have:=run_append_nil_string (P:=P) w T U ty e i zv hd hu hi hz str q_o q_o (by rw[hyl];have:ys.length*i.bytes≤(es.length+ys.length)*i.bytes:=Nat.mul_le_mul_right _ q_o;omega)
     rw[Sc,←hxus,hyl] at this
     simp only[Nat.zero_add]
     rw[this]
     simp
    | some ad =>
     have hold:=Dh c9 rfl
     have hg:=Lib.run_append_grow_string (P:=P) w T U ty e i zv hd hu hi hz ad es.length es.length us hul hold str q_o q_o (by rw[hyl];exact growslice_fits q_o hb)
     rw[←hxus,hyl] at hg
     exact grow es.length q_o hg
   | row g c =>
    obtain⟨ha,rfl⟩:a=some ⟨g,0,none⟩∧cap=c:=c10
    subst ha
    have hold:=Dh c9 rfl
    by_cases hroom:es.length+ys.length≤cap
    · obtain⟨cur,hg,hcs, -⟩:=h.2 _ (List.mem_cons_self ..)
      have hfit:es.length*i.size+xus.length≤cur.size:=by rw[hxl,hcs,←Nat.add_mul];exact Nat.mul_le_mul_right _ hroom
      have hrun:=Lib.run_append_room_string (P:=P) w T U ty e i hd hu hi hsz1 g es.length cap cur hg str q_o (by have h9:=hfit;rw[hxl] at h9;simp only[hsz1,Nat.mul_one] at h9;omega)
      rw[←hxus,hyl] at hrun
      have hx1:es.length=es.length*i.size:=by rw[hsz1,Nat.mul_one]
      have hx2:es.length+ys.length=es.length*i.size+xus.length:=by rw[hxl,hsz1];omega
      rw[show cur.toList.take es.length=cur.toList.take (es.length*i.size) by rw[←hx1],show cur.toList.drop (es.length+ys.length)=cur.toList.drop (es.length*i.size+xus.length) by rw[hx2]] at hrun
      have htake:cur.toList.take (es.length*i.size)=us:=by
       apply List.ext_getElem?
       intro j
       rw[List.getElem?_take]
       split
       · rename_i hj
         have hj':j<us.length:=by omega
         have hcj:=hold j us[j] (List.getElem?_eq_getElem hj')
         rw[Bu,Nat.zero_add,cell_of_row w g j cur e (0,0) hg] at hcj
         rw[List.getElem?_eq_getElem hj',←hcj]
         simp
       · rw[List.getElem?_eq_none q_o]
      rw[htake] at hrun
      generalize hnew:(us++xus++cur.toList.drop (es.length*i.size+xus.length))=L at *
      have hLs:L.length=cur.size:=by
       rw[←hnew]
       simp only[List.length_append,List.length_drop,Array.length_toList,hul]
       omega
      have hgn:(w.setRow g L.toArray).heap[g]?=some (.cells L.toArray e (0,0)):=setRow_heap w g cur L.toArray e (0,0) hg
      have hne:∀x∈s0,x.blk≠some g:=fun x hx=>(List.pairwise_cons.1 h.1).1 x hx g rfl
      have hown:∀b off,OwnS (.room (.row g cap) e i.size (es.length+ys.length)::s0) b off→OwnS (.room (.row g cap) e i.size es.length::s0) b off:=fun b off ho=>by
       rcases OwnS.cons_iff.1 ho with⟨h1,h2⟩|h1
       · refine OwnS.cons_iff.2 (.inl ⟨h1,?_⟩)
         simp only[Res.from] at h2 ⊢
         exact Nat.le_trans (Nat.mul_le_mul_right _ q_o) h2
       · exact OwnS.cons_iff.2 (.inr h1)
      have he:Ext (OwnS (.room (.row g cap) e i.size es.length::s0)) w (OwnS (.room (.row g cap) e i.size (es.length+ys.length)::s0)) (w.setRow g L.toArray):=by
       refine⟨Nat.le_refl _,rfl,rfl,rfl,by simp,fun b off _ ho=>hown b off ho,fun b hb hn=>setRow_other w g b _ fun eb=>?_,fun b cc E fr hb=>?_⟩
       · subst eb
         exact hn (es.length*i.size) (OwnS.cons_iff.2 (.inl ⟨rfl,Nat.le_refl _⟩))
       · by_cases eb:b=g
         · subst eb
           rw[hg] at hb
           cases hb
           refine⟨_,_,hgn,by simpa using hLs,fun off hn=>?_⟩
           have hoff:off<us.length:=by
            rcases Nat.lt_or_ge off us.length with h1|h1
            · exact h1
            · exact absurd (OwnS.cons_iff.2 (.inl ⟨rfl,by simp only[Res.from];omega⟩)) hn
           have hcj:=hold off us[off] (List.getElem?_eq_getElem hoff)
           rw[Bu,Nat.zero_add,cell_of_row w b off cur e (0,0) hg] at hcj
           rw[hcj,←hnew]
           simp[List.getElem?_append_left hoff,hoff]
         · exact⟨cc,fr,(setRow_other w g b _ eb).trans hb,rfl,fun _ _=>rfl⟩
      refine⟨_,_,.row g cap,by simp,hrun,?_,?_,?_⟩
      · rw[List.length_append]
        have hl2:(es++ys).length=es.length+ys.length:=List.length_append
        rw[←hl2]
        refine .sl _ (es++ys) _ cap (us++xus) i.size q_o c2 (fun e=>by cases e) hsz0 hfes hfl.1 hfleaf (fun j hj=>⟨g,0,rfl,?_⟩) (by rw[hl2];exact(hfl.ext he).2) ⟨rfl,rfl⟩
        rw[Nat.zero_add]
        refine⟨(Array.getElem?_eq_some_iff.1 hgn).1,fun ho=>?_,?_⟩
        · rw[hl2] at ho
          rcases OwnS.cons_iff.1 ho with⟨_,h2⟩|⟨r,hr,hrb,_⟩
          · simp only[Res.from] at h2;omega
          · exact hne r hr hrb
        · rw[cell_of_row _ g j L.toArray e (0,0) hgn,←hnew,List.getElem?_toArray,List.getElem?_append_left hj,List.getElem?_eq_getElem hj]
      · rw[List.length_append]
        exact h.put he (fun x hx b hb=>setRow_other w g b _ fun eb=>hne x hx (eb▸hb)) ⟨_,hgn,by simpa [hLs] using hcs,hroom⟩ fun x hx b hb=>by cases hb;exact hne x hx
      · rw[List.length_append];exact he
    · have hg:=Lib.run_append_grow_string (P:=P) w T U ty e i zv hd hu hi hz ⟨g,0,none⟩ es.length cap us hul hold str q_o q_o (by rw[hyl];exact growslice_fits q_o hb)
      rw[←hxus,hyl] at hg
      exact grow cap q_o hg
theorem Kv{e:Nat→D}{t u:TypeId}{ti tu:TI}{x y:Operand}{el:TypeId}{bytes:Nat}{z:List Value}{ow:Own}{es:List (List D)}{str:ByteArray}{s1:Own→St}{K:D→St→Prop}(ho:o.op=.call {callee:=.builtin .append,args:=#[x,y],argTypes:=#[t,u]})
 (hx:ev e x=some (.sl ow es))(hy:ev e y=some (.str str))(ht:Ag P t=some ti)(hk:ti.k=.slice el 1 bytes z)(htu:Ag P u=some tu)(hku:tu.k=.string)(hne:ow≠.shared)(hat:∀o',ResAt (.room ow el 1 es.length) (.room o' el 1 (es++str.data.toList.map Ad).length) st (s1 o'))
 (hes:∀a∈es,a.length=1)(hb:(es.length+str.size)*bytes≤140737488355328)(hm:es.length+str.size≤140737488355328)(hK:∀o',o'≠.shared→K (.sl o' (es++str.data.toList.map Ad)) (s1 o')):OpC P r o e st K:=by
 refine AU (by rw[ho];intro c hc;cases hc) fun ρ w hr hh=>.inl ?_
 have h1:=hr _ (by simp[ho,Op.operands,Call.operands]) _ hx
 have h2:=hr _ (by simp[ho,Op.operands,Call.operands]) _ hy
 have hyv:=AX h2
 obtain⟨s0,p1, -⟩:=(hat .shared).perm
 have hown:=OwnS.perm p1
 rw[hown] at h1
 have hyl:(str.data.toList.map Ad).length=str.size:=by rw[List.length_map,Array.length_toList];rfl
 obtain⟨v',w',o',q1,q2,q3,q4,q5⟩:=Kp t u o.type ht hk htu hku rfl (str:=str) rfl (hh.perm p1) h1 hne hes (by rw[hyl];exact hb) (by rw[hyl];exact hm)
 obtain⟨s0',p1',p2'⟩:=(hat o').perm
 have hs:s0.Perm s0':=(List.perm_cons _).1 (p1.symm.trans p1')
 have p3:(Res.room o' el 1 (es++str.data.toList.map Ad).length::s0).Perm (s1 o'):=(hs.cons _).trans p2'.symm
 refine⟨v',w',?_,.sl o' (es++str.data.toList.map Ad),s1 o',?_,q4.perm p3,?_,hK o' q1⟩
 · unfold execOp
   rw[ho]
   simp only[resolve,invoke,builtin,Sem.run_bind,Sem.run_pure,Result.andThen_ok,List.map_toArray,List.map_cons,List.map_nil,hyv,q2]
 · rw[←OwnS.perm p3];exact q3
 · rw[hown,←OwnS.perm p3];exact q5
end
attribute [push_cast] Gp Tk Yf
end
section
section
variable {P:Program} {N:Nat} {r:Option Nat} {A:AA} {st:St} {Q:Exit→AA→St→Prop}
theorem GP(id:Nat)(K:AA→St→Prop){ops:Array Oper}{b:Bool}{c:Code}(h1:Tr P N r (.region id ops b) A st (DI K fun _ _ _=>False))(h2:∀A' st',K A' st'→Tr P N r c A' st' Q):Tr P N r (.seq (.region id ops b) c) A st Q :=
 Us (Qu h1 fun ex A' st' h=>by
  cases ex with
  | normal=>exact h2 A' st' h
  | exit id=>exact h.elim
  | goto l=>exact h.elim
  | ret=>exact h.elim
  | panic c=>exact h.elim
  | outgrown=>exact h.elim)
end
theorem eW{a:Bool}(h:(!a)=true):a=false:=by simpa using h
theorem eX{a:Bool}(h:(!a)=false):a=true:=by simpa using h
theorem cR{a b:Int}(h:(a != b)=true):a≠b:=by simpa using h
theorem cT{a b:Int}(h:(a != b)=false):a=b:=by simpa using h
theorem Es(x:ByteArray):(x.toList == ByteArray.toList ⟨#[]⟩)=decide (x.size=0):=by
 rw[ByteArray.toList_eq,ByteArray.toList_eq]
 have hl:x.data.toList.length=x.size:=by simp
 by_cases h:x.size=0
 · have:x.data.toList=[]:=List.eq_nil_of_length_eq_zero q_o
   rw[this];simp[h]
 · have:x.data.toList≠[]:=fun e=>by rw[e] at hl;simp at hl;omega
   rw[decide_eq_false h,beq_eq_false_iff_ne]
   exact this
end
section
def Ev {α:Type}(x:Option α)(k:α→Prop):Prop:=∃d,x=some d∧k d
def W (P:Program)(r:Option Nat)(m:Option Ro)(ops:Array Oper)(K:AA→St→Prop)(l:List Oper)(A:AA)(st:St):Prop :=
 match m with
|none=>TrOps P r ops l A st K
|some ro=>BI P r ro ops K l A st
def AE (m:Option Ro)(st:St):Prop :=
 match m with
|none=>True
|some ro=>AL ro st
def roM (m:Option Ro)(st:St):Ro :=
 match m with
|none=>Gp st
|some ro=>ro
def S (P:Program)(r:Option Nat)(m:Option Ro)(o:Oper)(A:AA)(st:St)(k:D→St→Prop):Prop :=
 match m with
|none=>OpC P r o A.e st k
|some ro=>if AO o then∃d,frC P ro o A.e=some d∧k d st else OpC P r o A.e st (fun d st'=>AL ro st'∧k d st')∧∃d st',AL ro st'∧k d st'
theorem PD{ro:Ro}{st:St}{x:Res}(h:AL ro st):AL ro (x::st):=fun b cs hl=>by
 obtain⟨ty,hm⟩:=h b cs hl;exact⟨ty,List.mem_cons_of_mem _ hm⟩
theorem Tx{m:Option Ro}{st:St}{x:Res}(h:AE m st):AE m (x::st):=by
 cases m with
|none=>trivial
|some ro=>exact PD h
theorem Tw{st:St}:AE none st:=trivial
theorem An{st:St}:AE (some []) st:=Ls
theorem Yj{st:St}:AE (some (Gp st)) st:=BA st
section
variable {P:Program} {N:Nat} {r:Option Nat} {A:AA} {st:St} {Q:Exit→AA→St→Prop} {K:AA→St→Prop} {l:List Oper} {ops:Array Oper} {m:Option Ro} {k:D→St→Prop} {dst:Option Tmp} {op:Op} {ty:TypeId} {pos:String} {aft:Array Edge} {gd:Option (Nat×Bool)} {o:Oper}
theorem Ul{id:Nat}(hok:CP N l=true)(h:W P r none l.toArray (Q .normal) l A st):Tr P N r (.region id l.toArray false) A st Q:=RV hok h
theorem Cm{id:Nat}(ro:Ro)(hm:P.follows .mixedOrders=true)(hB:EI .any l.toArray=true)(hok:CP N l=true)(hC:AL ro st)(h:W P r (some ro) l.toArray (Q .normal) l A st):Tr P N r (.region id l.toArray true) A st Q:=Qv ro hm hB hok hC h
theorem aV(h:K A st):W P r m ops K [] A st:=by
 cases m<;>exact h
theorem Zd(hw:Au ops o A.e=true)(h:S P r m o A st fun d st'=>W P r m ops K l (A.put o.dst d) st'):W P r m ops K (o::l) A st:=by
 cases m with
|none =>
  show TrOps P r ops (o::l) A st K
  unfold TrOps;rw[if_pos hw];exact h
|some ro =>
  show AD P r ro _ ops o _ A st
  unfold AD
  rw[if_pos hw]
  replace h:if AO o then∃d,frC P ro o A.e=some d∧_ else _:=h
  split
  · rename_i hf;rw[if_pos hf] at h;exact h
  · rename_i hf
    rw[if_neg hf] at h
    obtain⟨h1,d,st',h2,h3⟩:=h
    exact⟨h1.mono fun d st' hk=>⟨.inr hk.1,hk.2⟩,d,st',.inr h2,h3⟩
theorem dZ(hw:Au ops o A.e=false)(h:W P r m ops K l (A.put o.dst D.un) st):W P r m ops K (o::l) A st:=by
 cases m with
|none=>exact Vu rfl hw h
|some ro=>exact Tg rfl hw h
def Gd (K1 K0 KF:AA→Prop)(A:AA)(t:Tmp)(b:Bool)(d:D):Prop :=
 A.e t=d→match d with
  | .s (.bool c)=>if c=b then K1 A else K0 A
  | _=>KF A
section
variable {K1 K0 KF:AA→Prop} {t:Tmp} {b c:Bool}
theorem cG(h:K1 A):Gd K1 K0 KF A t true (.s (.bool true)):=fun _=>h
theorem cJ(h:K1 A):Gd K1 K0 KF A t false (.s (.bool false)):=fun _=>h
theorem cH(h:K0 A):Gd K1 K0 KF A t false (.s (.bool true)):=fun _=>h
theorem cI(h:K0 A):Gd K1 K0 KF A t true (.s (.bool false)):=fun _=>h
theorem cF(h:KF A):Gd K1 K0 KF A t b D.un:=fun _=>h
theorem Hd{d:D}(h:A.e t=d):A.put (some t) d=A:=by
 cases A with
|mk e df =>
  show AA.mk (upd e (some t) d) df=_
  have:upd e (some t) d=e:=by
   funext i
   show(if i=t then d else e i)=e i
   split
   · rename_i hi;subst hi;exact h.symm
   · rfl
  rw[this]
theorem cK(h1:c=true→K1 (A.put (some t) (.s (.bool true))))(h0:c=false→K0 (A.put (some t) (.s (.bool false)))):Gd K1 K0 KF A t true (.s (.bool c)):=fun h=>by
 cases c
 · have:=h0 rfl;rw[Hd h] at this;exact this
 · have:=h1 rfl;rw[Hd h] at this;exact this
theorem cL(h1:c=false→K1 (A.put (some t) (.s (.bool false))))(h0:c=true→K0 (A.put (some t) (.s (.bool true)))):Gd K1 K0 KF A t false (.s (.bool c)):=fun h=>by
 cases c
 · have:=h1 rfl;rw[Hd h] at this;exact this
 · have:=h0 rfl;rw[Hd h] at this;exact this
end
theorem Qq(h:S P r m ⟨dst,op,ty,pos,aft,none⟩ A st fun d st'=>W P r m ops K l (A.put dst d) st'):W P r m ops K (⟨dst,op,ty,pos,aft,none⟩::l) A st:=Zd (Fv rfl) h
theorem Zw{ro:Ro}(hl:Ai ops=true)(hf:AO ⟨dst,op,ty,pos,aft,none⟩=false)(h:S P r (some []) ⟨dst,op,ty,pos,aft,none⟩ A st fun d st'=>K (A.put dst d) st'):W P r (some ro) ops K [⟨dst,op,ty,pos,aft,none⟩] A st:=by
 show AD P r ro (true && Ai ops) ops ⟨dst,op,ty,pos,aft,none⟩ (BI P r ro ops K []) A st
 unfold AD
 rw[if_pos (Fv rfl),if_neg (by rw[hf];exact Bool.false_ne_true),hl]
 replace h:if AO ⟨dst,op,ty,pos,aft,none⟩ then∃d,frC P [] ⟨dst,op,ty,pos,aft,none⟩ A.e=some d∧_ else _:=h
 rw[if_neg (by rw[hf];exact Bool.false_ne_true)] at h
 obtain⟨h1,d,st',h2,h3⟩:=h
 exact⟨h1.mono fun d st' hk=>⟨.inl rfl,hk.2⟩,d,st',.inl rfl,h3⟩
theorem WQ{j:Nat}{b:Bool}{t:Tmp}(ht:(ops[j]?).bind (·.dst)=some t)(h:Ev (ev A.e (.tmp t)) (Gd (fun A=>S P r m ⟨dst,op,ty,pos,aft,some (j,b)⟩ A st fun d st'=>W P r m ops K l (A.put dst d) st') (fun A=>W P r m ops K l (A.put dst D.un) st) (fun A=>W P r m ops K l (A.put dst D.un) st) A t b)):W P r m ops K (⟨dst,op,ty,pos,aft,some (j,b)⟩::l) A st:=by
 obtain⟨d,h1,h2⟩:=h
 have h1:A.e t=d:=by cases h1;rfl
 have h3:=h2 h1
 clear h2
 by_cases hw:Au ops ⟨dst,op,ty,pos,aft,some (j,b)⟩ A.e=true
 · refine Zd hw ?_
   unfold Au at hw
   dsimp only at hw
   rw[ht] at hw
   dsimp only at hw
   rw[h1] at hw
   split at h3
   · rename_i c
     dsimp only at hw
     rw[if_pos (by simpa using hw)] at h3
     exact h3
   · rename_i hne
     exfalso
     split at hw
     · exact hne _ rfl
     · cases hw
 · have hw:Au ops ⟨dst,op,ty,pos,aft,some (j,b)⟩ A.e=false:=by simpa using hw
   refine dZ hw ?_
   unfold Au at hw
   dsimp only at hw
   rw[ht] at hw
   dsimp only at hw
   rw[h1] at hw
   split at h3
   · rename_i c
     dsimp only at hw
     rw[if_neg (by simpa using hw)] at h3
     exact h3
   · exact h3
theorem Uw{t:Tmp}{x y:Code}(h:Ev (ev A.e (.tmp t)) (Gd (fun A=>Tr P N r x A st Q) (fun A=>Tr P N r y A st Q) (fun _=>False) A t true)):Tr P N r (.cond (.tmp t) x y) A st Q:=by
 obtain⟨d,h1,h2⟩:=h
 have h3:A.e t=d:=by cases h1;rfl
 have h4:=h2 h3
 split at h4
 · rename_i c
   split at h4
   · rename_i hc;subst hc;exact Qt h1 h4
   · rename_i hc
     have:c=false:=by simpa using hc
     subst this;exact Nb h1 h4
 · exact h4.elim
theorem RX{x y:Code}(h:Tr P N r x A st Q):Tr P N r (.cond (.const (.bool true)) x y) A st Q:=Qt rfl h
theorem RY{x y:Code}(h:Tr P N r y A st Q):Tr P N r (.cond (.const (.bool false)) x y) A st Q:=Nb rfl h
theorem Pb(hf:AO o=true)(h:Ev (frC P (roM m st) o A.e) fun d=>k d st):S P r m o A st k:=by
 obtain⟨d,h1,h2⟩:=h
 cases m with
|none=>exact(Gi (BA st) h1).opC h2
|some ro =>
  show if AO o then _ else _
  rw[if_pos hf];exact⟨d,h1,h2⟩
theorem EY(hf:AO ⟨dst,op,ty,pos,aft,gd⟩=true)(hn:∀t x,op≠.load t x)(h:Ev (aOp P ⟨dst,op,ty,pos,aft,gd⟩ A.e) fun d=>k d st):S P r m ⟨dst,op,ty,pos,aft,gd⟩ A st k:=by
 refine Pb hf ?_
 obtain⟨d,h1,h2⟩:=h
 refine⟨d,?_,h2⟩
 unfold frC
 split
 · rename_i t x he;exact absurd he (hn t x)
 · exact h1
theorem ZG{x:Operand}(h:Ev (ev A.e x) fun d=>k d st):S P r m ⟨dst,.move x,ty,pos,aft,gd⟩ A st k:=EY rfl (fun _ _ e=>by cases e) h
theorem UM{x:Operand}(h:Ev (ev A.e x) fun d=>k d st):S P r m ⟨dst,.assign x,ty,pos,aft,gd⟩ A st k:=EY rfl (fun _ _ e=>by cases e) h
def RF (P:Program)(b:BinOp)(t:TypeId):Option D→Option D→Option D
|some x,some y=>Bp P b t x y
|_,_=>none
theorem Qh{b:BinOp}{t:TypeId}{x y:D}:RF P b t (some x) (some y)=Bp P b t x y:=rfl
theorem bS{b:BinOp}{t t':TypeId}{x y:Operand}(h:Ev (RF P b t (ev A.e x) (ev A.e y)) fun d=>k d st):S P r m ⟨dst,.binOp b t x y t',ty,pos,aft,gd⟩ A st k:=EY rfl (fun _ _ e=>by cases e) (by
 unfold RF at h
 exact h)
theorem eO{b:UnOp}{t:TypeId}{x:Operand}(h:Ev ((ev A.e x).bind (aUn b)) fun d=>k d st):S P r m ⟨dst,.unOp b t x,ty,pos,aft,gd⟩ A st k:=EY rfl (fun _ _ e=>by cases e) h
theorem ZI{a b:TypeId}{x:Operand}(h:Ev ((ev A.e x).bind (Mc P a b)) fun d=>k d st):S P r m ⟨dst,.convert a b x,ty,pos,aft,gd⟩ A st k:=EY rfl (fun _ _ e=>by cases e) h
theorem Xu{t:TypeId}{f:Nat}{x:Operand}(h:Ev ((ev A.e x).bind (Iy P t f)) fun d=>k d st):S P r m ⟨dst,.field t x f,ty,pos,aft,gd⟩ A st k:=EY rfl (fun _ _ e=>by cases e) h
theorem Nq{t:TypeId}{f:Nat}{x:Operand}(h:Ev ((ev A.e x).bind (Dd P t f)) fun d=>k d st):S P r m ⟨dst,.fieldAddr t x f,ty,pos,aft,gd⟩ A st k:=EY rfl (fun _ _ e=>by cases e) h
def YW (i:Nat):Option D→Option D
|some (.tup ds)=>ds[i]?
|_=>none
theorem Uj{i:Nat}{ds:List D}:YW i (some (.tup ds))=ds[i]?:=rfl
theorem bP{i:Nat}{x:Operand}(h:Ev (YW i (ev A.e x)) fun d=>k d st):S P r m ⟨dst,.extract x i,ty,pos,aft,gd⟩ A st k:=EY rfl (fun _ _ e=>by cases e) (by
 unfold YW at h
 exact h)
def Qg (f:D→Int→Option D):Option D→Option Int→Option D
|some d,some n=>f d n
|_,_=>none
theorem Ui{f:D→Int→Option D}{d:D}{n:Int}:Qg f (some d) (some n)=f d n:=rfl
theorem Xt{t:TypeId}{x y:Operand}(h:Ev (Qg (Iw P t) (ev A.e x) (Fh (ev A.e y))) fun d=>k d st):S P r m ⟨dst,.index t x y,ty,pos,aft,gd⟩ A st k:=EY rfl (fun _ _ e=>by cases e) (by
 unfold Qg at h
 exact h)
theorem Np{t:TypeId}{x y:Operand}(h:Ev (Qg (Dc P t) (ev A.e x) (Fh (ev A.e y))) fun d=>k d st):S P r m ⟨dst,.indexAddr t x y,ty,pos,aft,gd⟩ A st k:=EY rfl (fun _ _ e=>by cases e) (by
 unfold Qg at h
 exact h)
theorem eS{b:Builtin}{args:Array Operand}{tys:Array TypeId}(hf:AO ⟨dst,.call ⟨.builtin b,args,tys⟩,ty,pos,aft,gd⟩=true)(h:Ev ((evL A.e args.toList).bind (aBi P b tys.toList)) fun d=>k d st):S P r m ⟨dst,.call ⟨.builtin b,args,tys⟩,ty,pos,aft,gd⟩ A st k:=EY hf (fun _ _ e=>by cases e) h
theorem ZF{t:Tmp}{x y:Operand}(h:Ev (ev A.e (.tmp t)) (Gd (fun A=>Ev (ev A.e x) fun d=>k d st) (fun A=>Ev (ev A.e y) fun d=>k d st) (fun _=>False) A t true)):S P r m ⟨dst,.pick (.tmp t) x y,ty,pos,aft,gd⟩ A st k:=by
 obtain⟨d,h1,h2⟩:=h
 have h3:A.e t=d:=by cases h1;rfl
 have h4:=h2 h3
 split at h4
 · rename_i c
   split at h4
   · rename_i hc
     subst hc
     obtain⟨d,h5,h6⟩:=h4
     exact EY rfl (fun _ _ e=>by cases e) ⟨d,by simp[aOp,h1,h5],h6⟩
   · rename_i hc
     have:c=false:=by simpa using hc
     subst this
     obtain⟨d,h5,h6⟩:=h4
     exact EY rfl (fun _ _ e=>by cases e) ⟨d,by simp[aOp,h1,h5],h6⟩
 · exact h4.elim
def Qe:Option D→Option D
|some (.ptr b o)=>some (.ptr b o)
|some (.ip c)=>some (.ip c)
|some (.fn (.func f) a b)=>some (.fn (.func f) a b)
|some (.fn (.yield f) a b)=>some (.fn (.yield f) a b)
|_=>none
theorem WG{b o:Nat}:Qe (some (.ptr b o))=some (.ptr b o):=rfl
theorem YV{c:List D}:Qe (some (.ip c))=some (.ip c):=rfl
theorem Uh{f:FuncId}{a b:List D}:Qe (some (.fn (.func f) a b))=some (.fn (.func f) a b):=rfl
theorem Qd{f:Nat}{a b:List D}:Qe (some (.fn (.yield f) a b))=some (.fn (.yield f) a b):=rfl
theorem bN{x:Operand}(h:Ev (Qe (ev A.e x)) fun d=>k d st):S P r m ⟨dst,.nilCheck x,ty,pos,aft,gd⟩ A st k:=EY rfl (fun _ _ e=>by cases e) (by
 unfold Qe at h
 exact h)
def aMk (fn:Fn):Option (List D)→Option (List D)→Option D
|some a,some b=>some (.fn fn a b)
|_,_=>none
theorem WH{fn:Fn}{a b:List D}:aMk fn (some a) (some b)=some (.fn fn a b):=rfl
theorem eP{fn:Fn}{a b:Array Operand}(h:Ev (aMk fn (evL A.e a.toList) (evL A.e b.toList)) fun d=>k d st):S P r m ⟨dst,.makeFunc fn a b,ty,pos,aft,gd⟩ A st k:=EY rfl (fun _ _ e=>by cases e) (by
 unfold aMk at h
 exact h)
def aSl (f:D→Option Int→Option Int→Option Int→Option D):Option D→Option (Option Int)→Option (Option Int)→Option (Option Int)→Option D
|some d,some a,some b,some c=>f d a b c
|_,_,_,_=>none
theorem WF{f:D→Option Int→Option Int→Option Int→Option D}{d:D}{a b c:Option Int}:aSl f (some d) (some a) (some b) (some c)=f d a b c:=rfl
theorem Xp{t:TypeId}{x:Operand}{lo hi mx:Option Operand}(h:Ev (aSl (Iv P t) (ev A.e x) (Cy A.e lo) (Cy A.e hi) (Cy A.e mx)) fun d=>k d st):S P r m ⟨dst,.slice t x lo hi mx,ty,pos,aft,gd⟩ A st k:=EY rfl (fun _ _ e=>by cases e) (by
 unfold aSl at h
 exact h)
theorem Xv{t:TypeId}{ps:Array (Nat×Operand)}(h:Ev ((evP A.e ps.toList).bind (Iz P t)) fun d=>k d st):S P r m ⟨dst,.build t ps,ty,pos,aft,gd⟩ A st k:=EY rfl (fun _ _ e=>by cases e) h
theorem Mn{t:TypeId}{n:Nat}{ps:Array (Nat×Operand)}(h:Ev ((evP A.e ps.toList).bind (CG P t n)) fun d=>k d st):S P r m ⟨dst,.buildSlice t n ps,ty,pos,aft,gd⟩ A st k:=EY rfl (fun _ _ e=>by cases e) h
def YE (d:D):Option D :=
 match d.cells.all D.leaf with
|true=>some (.ip d.cells)
|false=>none
theorem eR{t:TypeId}{x:Operand}(h:Ev ((ev A.e x).bind YE) fun d=>k d st):S P r m ⟨dst,.box t x,ty,pos,aft,gd⟩ A st k:=EY rfl (fun _ _ e=>by cases e) (by
 obtain⟨d,h1,h2⟩:=h
 refine⟨d,?_,h2⟩
 unfold aOp
 dsimp only
 cases hx:ev A.e x with
|none=>rw[hx] at h1;cases h1
|some d' =>
  rw[hx,Option.bind_some] at h1
  unfold YE at h1
  split at h1
  · rename_i hl;cases h1;simp[hl]
  · cases h1)
def FE (P:Program)(t:TypeId)(cs:List D):Option D:=(Ag P t).bind fun ti=>Eb ti cs
def Hy (P:Program)(m:Option Ro)(t:TypeId)(d:D)(st:St)(k:D→St→Prop):Prop :=
 match d with
|.ip cs=>Ev (FE P t cs) fun d=>k d st
|.ptr b off=>∃cs,((roM m st).lookup b=some cs∨(m=none∧∃ty,Res.box b ty cs∈st))∧Ev (FE P t (cs.drop off)) fun d=>k d st
|_=>False
theorem ci{t:TypeId}{cs:List D}(h:Ev (FE P t cs) fun d=>k d st):Hy P m t (.ip cs) st k:=h
theorem ZV{t:TypeId}{b off:Nat}{bt:TypeId}{cs:List D}(hm:Res.box b bt cs∈st)(h:Ev (FE P t (cs.drop off)) fun d=>k d st):Hy P none t (.ptr b off) st k:=⟨cs,.inr ⟨rfl,bt,hm⟩,h⟩
theorem ZU{t:TypeId}{b off:Nat}(h:Ev ((roM m st).lookup b) fun cs=>Ev (FE P t (cs.drop off)) fun d=>k d st):Hy P m t (.ptr b off) st k:=by
 obtain⟨cs,h1,h2⟩:=h
 exact⟨cs,.inl h1,h2⟩
theorem ZH{t:TypeId}{x:Operand}(h:Ev (ev A.e x) fun d=>Hy P m t d st k):S P r m ⟨dst,.load t x,ty,pos,aft,gd⟩ A st k:=by
 obtain⟨d,h1,h2⟩:=h
 unfold Hy at h2
 split at h2
 · rename_i cs
   refine Pb rfl ?_
   obtain⟨d,h3,h4⟩:=h2
   refine⟨d,?_,h4⟩
   unfold FE at h3
   cases ht:Ag P t with
   | none=>rw[ht] at h3;cases h3
   | some ti =>
    rw[ht] at h3
    simp only[frC,h1,ht]
    exact h3
 · rename_i b off
   obtain⟨cs,h3,d,h4,h5⟩:=h2
   unfold FE at h4
   cases ht:Ag P t with
   | none=>rw[ht] at h4;cases h4
   | some ti =>
    rw[ht] at h4
    rcases h3 with h3|⟨rfl,bt,h3⟩
    · refine Pb rfl ⟨d,?_,h5⟩
      simp only[frC,h1,ht,h3]
      exact h4
    · exact NQ rfl h1 ht h3 h4 h5
 · exact h2.elim
theorem Bk{R:D→St→Prop}(hf:AO o=false)(hc:OpC P r o A.e st R)(hex:∃d st',R d st')(h:∀d st',R d st'→AE m st'∧k d st'):S P r m o A st k:=by
 cases m with
|none=>exact hc.mono fun d st' hk=>(h d st' hk).2
|some ro =>
  show if AO o then _ else _
  rw[if_neg (by rw[hf];exact Bool.false_ne_true)]
  obtain⟨d,st',hk⟩:=hex
  exact⟨hc.mono fun d st' hk=>h d st' hk,d,st',h d st' hk⟩
def UB (P:Program)(t:TypeId)(cs:List D)(off:Nat)(dc:List D):Option (List D):=(Ag P t).bind fun ti=>if dc.length=ti.sz∧dc.all D.leaf=true∧off+dc.length≤cs.length then some (Bh cs off dc) else none
def YX (P:Program)(m:Option Ro)(t:TypeId)(d:D)(d':D)(st:St)(k:D→St→Prop):Prop :=
 ∃(b off:Nat) (ty:TypeId) (cs:List D) (s1:List D→St),d=.ptr b off∧(∀cs',ResAt (.box b ty cs) (.box b ty cs') st (s1 cs'))∧Ev (UB P t cs off d'.cells) fun cs'=>AE m (s1 cs')∧k D.un (s1 cs')
theorem ZD{t:TypeId}{b off:Nat}{ty:TypeId}{cs:List D}{d':D}{s1:List D→St}(hat:∀cs',ResAt (.box b ty cs) (.box b ty cs') st (s1 cs'))(h:Ev (UB P t cs off d'.cells) fun cs'=>AE m (s1 cs')∧k D.un (s1 cs')):YX P m t (.ptr b off) d' st k:=⟨b,off,ty,cs,s1,rfl,hat,h⟩
theorem Xo{t:TypeId}{x y:Operand}(h:Ev (ev A.e x) fun d=>Ev (ev A.e y) fun d'=>YX P m t d d' st k):S P r m ⟨dst,.store t x y,ty,pos,aft,gd⟩ A st k:=by
 obtain⟨d,h1,d',h2,b,off,ty,cs,s1,rfl,hat,cs',h3,h4⟩:=h
 unfold UB at h3
 cases ht:Ag P t with
|none=>rw[ht] at h3;cases h3
|some ti =>
  rw[ht,Option.bind_some] at h3
  split at h3
  · rename_i hc
    cases h3
    exact Bk (R:=fun d s=>d=D.un∧s=s1 (Bh cs off d'.cells)) rfl (SW rfl h1 h2 ht hc.1 hc.2.1 (hat _) hc.2.2 ⟨rfl,rfl⟩) ⟨_,_,rfl,rfl⟩ fun d s ⟨e1,e2⟩=>by subst e1 e2;exact h4
  · cases h3
def RB (P:Program)(t:TypeId):Option (List D):=(Ag P t).bind fun ti=>if ti.zero.all (fun v=>CJ v && (AN v).leaf) then some (ti.zero.map AN) else none
def AlK (m:Option Ro)(t:TypeId)(cs:List D)(st:St)(k:D→St→Prop):Prop:=∀b,AE m (.box b t cs::st)∧k (.ptr b 0) (.box b t cs::st)
theorem de{t:TypeId}{cs:List D}(h:∀b,AE m (.box b t cs::st)∧k (.ptr b 0) (.box b t cs::st)):AlK m t cs st k:=h
theorem Xw{t:TypeId}(h:Ev (RB P t) fun cs=>AlK m t cs st k):S P r m ⟨dst,.alloc t,ty,pos,aft,gd⟩ A st k:=by
 obtain⟨cs,h1,h2⟩:=h
 unfold RB at h1
 cases ht:Ag P t with
|none=>rw[ht] at h1;cases h1
|some ti =>
  rw[ht,Option.bind_some] at h1
  split at h1
  · rename_i hz
    cases h1
    exact Bk (R:=fun d s=>∃b,d=.ptr b 0∧s=.box b t (ti.zero.map AN)::st) rfl (SX rfl ht hz fun b=>⟨b,rfl,rfl⟩) ⟨_,_,0,rfl,rfl⟩ fun d s ⟨b,e1,e2⟩=>by subst e1 e2;exact h2 b
  · cases h1
def fH (e:Nat→D)(g:Operand)(args:Array Operand):Option (FuncId×List D) :=
 match ev e g with
|some (.fn (.func f) first caps)=>(evL e args.toList).map fun ds=>(f,first++ds++caps)
|_=>none
def LZ (d:Option D)(l:Option (List D)):Option (FuncId×List D) :=
 match d with
|some (.fn (.func f) first caps)=>l.map fun ds=>(f,first++ds++caps)
|_=>none
theorem PW{f:FuncId}{first caps ds:List D}:LZ (some (.fn (.func f) first caps)) (some ds)=some (f,first++ds++caps):=rfl
def Gw (P:Program)(m:Option Ro)(p:FuncId×List D)(st:St)(k:D→St→Prop):Prop :=
 ∃R,(∀args w,(callFunc p.1 args).run P w=.ok (.enter p.1 args) w)∧TrF P p.1 p.2 st R∧(∃d st',R d st')∧∀d st',R d st'→AE m st'∧k d st'
theorem Bl{g:Operand}{args:Array Operand}{tys:Array TypeId}(h:Ev (LZ (ev A.e g) (evL A.e args.toList)) fun p=>Gw P m p st k):S P r m ⟨dst,.call ⟨.value g,args,tys⟩,ty,pos,aft,gd⟩ A st k:=by
 obtain⟨⟨f,ds⟩,h1,R,h2,h3,h4,h5⟩:=h
 unfold LZ at h1
 split at h1
 · rename_i f' first caps hg
   cases ha:evL A.e args.toList with
   | none=>rw[ha] at h1;cases h1
   | some ds' =>
    rw[ha] at h1
    cases h1
    exact Bk rfl (NR rfl rfl hg ha h2 h3) h4 h5
 · cases h1
section
variable {f:FuncId} {ds ds':List D} {X:D} {s1:St}
theorem Rx(henter:∀args w,(callFunc f args).run P w=.ok (.enter f args) w)(h:TrF P f ds st fun d st'=>d=X∧st'=s1)(hk:AE m s1∧k X s1):Gw P m (f,ds) st k:=⟨_,henter,h,⟨_,_,rfl,rfl⟩,fun d st' ⟨e1,e2⟩=>by subst e1 e2;exact hk⟩
theorem Zo(henter:∀args w,(callFunc f args).run P w=.ok (.enter f args) w)(hle:LEL ds ds')(h:TrF P f ds' st fun d st'=>d=X∧st'=s1)(hk:AE m s1∧k X s1):Gw P m (f,ds) st k:=Rx henter (h.le hle) hk
theorem Rv{ι:Type}{p:ι→Prop}{F:ι→D}{Sx:ι→St}(henter:∀args w,(callFunc f args).run P w=.ok (.enter f args) w)(hle:LEL ds ds')(h:TrF P f ds' st fun d st'=>∃i,p i∧d=F i∧st'=Sx i)(hex:∃i,p i)(hk:∀i,p i→AE m (Sx i)∧k (F i) (Sx i)):Gw P m (f,ds) st k:=by
 obtain⟨i0,hi0⟩:=hex
 exact⟨_,henter,h.le hle,⟨_,_,i0,hi0,rfl,rfl⟩,fun d st' ⟨i,hi,e1,e2⟩=>by subst e1 e2;exact hk i hi⟩
end
def Zc (P:Program)(m:Option Ro)(t:TypeId)(p:D×D)(st:St)(k:D→St→Prop):Prop :=
 ∃(ti:TI) (el:TypeId) (sz bytes:Nat) (z:List Value) (ow oy:Own) (es ys:List (List D)) (s1:Own→St),p=(.sl ow es,.sl oy ys)∧Ag P t=some ti∧ti.k=.slice el sz bytes z∧ow≠.shared∧(∀o',ResAt (.room ow el sz es.length) (.room o' el sz (es++ys).length) st (s1 o'))∧(∀a∈es,a.length=sz)∧(∀a∈ys,a.length=sz)∧(es.length+ys.length)*bytes≤140737488355328∧es.length+ys.length≤140737488355328∧∀o',o'≠.shared→AE m (s1 o')∧k (.sl o' (es++ys)) (s1 o')
def DP (a b:Option D):Option (D×D) :=
 match a,b with
|some x,some y=>some (x,y)
|_,_=>none
theorem Pm{x y:D}:DP (some x) (some y)=some (x,y):=rfl
theorem bU{t:TypeId}{x y:Operand}(h:Ev (DP (ev A.e x) (ev A.e y)) fun p=>Zc P m t p st k):S P r m ⟨dst,.call ⟨.builtin .append,#[x,y],#[t,t]⟩,ty,pos,aft,gd⟩ A st k:=by
 obtain⟨p,h1,ti,el,sz,bytes,z,ow,oy,es,ys,s1,rfl,h2,h3,h4,h5,h6,h7,h8,h9,h10⟩:=h
 unfold DP at h1
 split at h1
 · rename_i d d' hx hy
   cases h1
   exact Bk (R:=fun d st'=>∃o',o'≠.shared∧d=.sl o' (es++ys)∧st'=s1 o') rfl (Pp rfl hx hy h2 h3 h4 h5 h6 h7 h8 h9 fun o' h=>⟨o',h,rfl,rfl⟩) ⟨_,_,.tight,by simp,rfl,rfl⟩ fun d st' ⟨o',h,e1,e2⟩=>by subst e1 e2;exact h10 o' h
 · cases h1
def EV (P:Program)(t:TypeId):Option (TypeId×Nat×Nat):=(Ag P t).bind fun ti=>match ti.k with
|.slice el sz bytes _=>some (el,sz,bytes)
|_=>none
theorem DZ{t:TypeId}{el:TypeId}{sz bytes:Nat}(h:EV P t=some (el,sz,bytes)):∃ti z,Ag P t=some ti∧ti.k=.slice el sz bytes z:=by
 unfold EV at h
 cases ht:Ag P t with
|none=>rw[ht] at h;cases h
|some ti =>
  rw[ht,Option.bind_some] at h
  split at h
  · rename_i z hk;cases h;exact⟨ti,z,rfl,hk⟩
  · cases h
def GU (P:Program)(t:TypeId):Option Bool:=(Ag P t).bind fun ti=>match ti.k with
|.string=>some true
|_=>none
theorem Mh{t:TypeId}(h:GU P t=some true):∃ti,Ag P t=some ti∧ti.k=.string:=by
 unfold GU at h
 cases ht:Ag P t with
|none=>rw[ht] at h;cases h
|some ti =>
  rw[ht,Option.bind_some] at h
  split at h
  · rename_i hk;exact⟨ti,rfl,hk⟩
  · cases h
def WN (m:Option Ro)(q:TypeId×Nat×Nat)(p:D×D)(st:St)(k:D→St→Prop):Prop :=
 ∃(ow oy:Own) (es ys:List (List D)) (s1:Own→St),p=(.sl ow es,.sl oy ys)∧ow≠.shared∧(∀o',ResAt (.room ow q.1 q.2.1 es.length) (.room o' q.1 q.2.1 (es++ys).length) st (s1 o'))∧(∀a∈es,a.length=q.2.1)∧(∀a∈ys,a.length=q.2.1)∧(es.length+ys.length)*q.2.2≤140737488355328∧es.length+ys.length≤140737488355328∧∀o',o'≠.shared→AE m (s1 o')∧k (.sl o' (es++ys)) (s1 o')
theorem dg{t:TypeId}{p:D×D}(h:Ev (EV P t) fun q=>WN m q p st k):Zc P m t p st k:=by
 obtain⟨⟨el,sz,bytes⟩,h1,ow,oy,es,ys,s1,h2,h3,h4,h5,h6,h7,h8,h9⟩:=h
 obtain⟨ti,z,h10,h11⟩:=DZ h1
 exact⟨ti,el,sz,bytes,z,ow,oy,es,ys,s1,h2,h10,h11,h3,h4,h5,h6,h7,h8,h9⟩
theorem Zp{el:TypeId}{sz bytes:Nat}{ow oy:Own}{es ys:List (List D)}{s1:Own→St}(h4:ow≠.shared)(h5:∀o',ResAt (.room ow el sz es.length) (.room o' el sz (es++ys).length) st (s1 o'))(h6:∀a∈es,a.length=sz)(h7:∀a∈ys,a.length=sz)(h8:(es.length+ys.length)*bytes≤140737488355328)(h9:es.length+ys.length≤140737488355328)
 (h10:∀o',o'≠.shared→AE m (s1 o')∧k (.sl o' (es++ys)) (s1 o')):WN m (el,sz,bytes) (.sl ow es,.sl oy ys) st k:=⟨ow,oy,es,ys,s1,rfl,h4,h5,h6,h7,h8,h9,h10⟩
def Za (P:Program)(m:Option Ro)(t u:TypeId)(p:D×D)(st:St)(k:D→St→Prop):Prop :=
 ∃(ti tu:TI) (el:TypeId) (bytes:Nat) (z:List Value) (ow:Own) (es:List (List D)) (str:ByteArray) (s1:Own→St),p=(.sl ow es,.str str)∧Ag P t=some ti∧ti.k=.slice el 1 bytes z∧Ag P u=some tu∧tu.k=.string∧ow≠.shared∧(∀o',ResAt (.room ow el 1 es.length) (.room o' el 1 (es++str.data.toList.map Ad).length) st (s1 o'))∧(∀a∈es,a.length=1)∧(es.length+str.size)*bytes≤140737488355328∧es.length+str.size≤140737488355328∧∀o',o'≠.shared→AE m (s1 o')∧k (.sl o' (es++str.data.toList.map Ad)) (s1 o')
theorem bT{t u:TypeId}{x y:Operand}(h:Ev (DP (ev A.e x) (ev A.e y)) fun p=>Za P m t u p st k):S P r m ⟨dst,.call ⟨.builtin .append,#[x,y],#[t,u]⟩,ty,pos,aft,gd⟩ A st k:=by
 obtain⟨p,h1,ti,tu,el,bytes,z,ow,es,str,s1,rfl,h2,h3,h4,h5,h6,h7,h8,h9,h10,h11⟩:=h
 unfold DP at h1
 split at h1
 · rename_i d d' hx hy
   cases h1
   exact Bk (R:=fun d st'=>∃o',o'≠.shared∧d=.sl o' (es++str.data.toList.map Ad)∧st'=s1 o') rfl (Kv rfl hx hy h2 h3 h4 h5 h6 h7 h8 h9 h10 fun o' h=>⟨o',h,rfl,rfl⟩) ⟨_,_,.tight,by simp,rfl,rfl⟩ fun d st' ⟨o',h,e1,e2⟩=>by subst e1 e2;exact h11 o' h
 · cases h1
def Zb (m:Option Ro)(q:TypeId×Nat×Nat)(p:D×D)(st:St)(k:D→St→Prop):Prop :=
 ∃(ow:Own) (es:List (List D)) (str:ByteArray) (s1:Own→St),p=(.sl ow es,.str str)∧q.2.1=1∧ow≠.shared∧(∀o',ResAt (.room ow q.1 1 es.length) (.room o' q.1 1 (es++str.data.toList.map Ad).length) st (s1 o'))∧(∀a∈es,a.length=1)∧(es.length+str.size)*q.2.2≤140737488355328∧es.length+str.size≤140737488355328∧∀o',o'≠.shared→AE m (s1 o')∧k (.sl o' (es++str.data.toList.map Ad)) (s1 o')
theorem cZ{t u:TypeId}{p:D×D}(h:Ev (GU P u) fun b=>b=true∧Ev (EV P t) fun q=>Zb m q p st k):Za P m t u p st k:=by
 obtain⟨b,h0,rfl,⟨el,sz,bytes⟩,h1,ow,es,str,s1,h2,e,h3,h4,h5,h6,h7,h8⟩:=h
 dsimp only at e
 subst e
 obtain⟨ti,z,h10,h11⟩:=DZ h1
 obtain⟨tu,h12,h13⟩:=Mh h0
 exact⟨ti,tu,el,bytes,z,ow,es,str,s1,h2,h10,h11,h12,h13,h3,h4,h5,h6,h7,h8⟩
theorem XU{p:Prop}(h:p):true=true∧p:=⟨rfl,h⟩
end
attribute [push_cast] EV GU Qh Uj Ui FE PW Pm UB RB roM WG YV Uh Qd WH WF YE
class Go1 (p:Prop)(q:outParam Prop):Prop where
 go:q→p
class Go2 (p:Prop)(q:outParam Prop):Prop where
 go:q→p
section
variable {P:Program} {N:Nat} {r:Option Nat} {A:AA} {st:St} {Q:Exit→AA→St→Prop} {K:AA→St→Prop} {l:List Oper} {ops:Array Oper} {m:Option Ro} {k:D→St→Prop} {dst:Option Tmp} {op:Op} {ty:TypeId} {pos:String} {aft:Array Edge} {gd:Option (Nat×Bool)} {id:Nat} {K1 K0 KF:AA→Prop} {tt:Tmp} {b:Bool}
instance aD {o2:Oper}:Go1 (W P r m ops K (⟨dst,op,ty,pos,aft,none⟩::o2::l) A st) (S P r m ⟨dst,op,ty,pos,aft,none⟩ A st fun d st'=>W P r m ops K (o2::l) (A.put dst d) st'):=⟨Qq⟩
instance aC:Go2 (W P r m ops K (⟨dst,op,ty,pos,aft,none⟩::[]) A st) (S P r m ⟨dst,op,ty,pos,aft,none⟩ A st fun d st'=>W P r m ops K [] (A.put dst d) st'):=⟨Qq⟩
instance dG:Go1 (W P r m ops K [] A st) (K A st):=⟨aV⟩
instance dR:Go1 (Gd K1 K0 KF A tt true (.s (.bool true))) (K1 A):=⟨cG⟩
instance dU:Go1 (Gd K1 K0 KF A tt false (.s (.bool false))) (K1 A):=⟨cJ⟩
instance dS:Go1 (Gd K1 K0 KF A tt false (.s (.bool true))) (K0 A):=⟨cH⟩
instance dT:Go1 (Gd K1 K0 KF A tt true (.s (.bool false))) (K0 A):=⟨cI⟩
instance dQ:Go1 (Gd K1 K0 KF A tt b D.un) (KF A):=⟨cF⟩
instance cz {x:Operand}:Go1 (S P r m ⟨dst,.move x,ty,pos,aft,gd⟩ A st k) (Ev (ev A.e x) fun d=>k d st):=⟨ZG⟩
instance ae {x:Operand}:Go1 (S P r m ⟨dst,.assign x,ty,pos,aft,gd⟩ A st k) (Ev (ev A.e x) fun d=>k d st):=⟨UM⟩
instance dK {b:BinOp}{t t':TypeId}{x y:Operand}:Go2 (S P r m ⟨dst,.binOp b t x y t',ty,pos,aft,gd⟩ A st k) (Ev (RF P b t (ev A.e x) (ev A.e y)) fun d=>k d st):=⟨bS⟩
instance ff {b:UnOp}{t:TypeId}{x:Operand}:Go1 (S P r m ⟨dst,.unOp b t x,ty,pos,aft,gd⟩ A st k) (Ev ((ev A.e x).bind (aUn b)) fun d=>k d st):=⟨eO⟩
instance cB {a b:TypeId}{x:Operand}:Go2 (S P r m ⟨dst,.convert a b x,ty,pos,aft,gd⟩ A st k) (Ev ((ev A.e x).bind (Mc P a b)) fun d=>k d st):=⟨ZI⟩
instance aL {t:TypeId}{f:Nat}{x:Operand}:Go1 (S P r m ⟨dst,.field t x f,ty,pos,aft,gd⟩ A st k) (Ev ((ev A.e x).bind (Iy P t f)) fun d=>k d st):=⟨Xu⟩
instance WP {t:TypeId}{f:Nat}{x:Operand}:Go1 (S P r m ⟨dst,.fieldAddr t x f,ty,pos,aft,gd⟩ A st k) (Ev ((ev A.e x).bind (Dd P t f)) fun d=>k d st):=⟨Nq⟩
instance dJ {i:Nat}{x:Operand}:Go1 (S P r m ⟨dst,.extract x i,ty,pos,aft,gd⟩ A st k) (Ev (YW i (ev A.e x)) fun d=>k d st):=⟨bP⟩
instance cy {t:Tmp}{x y:Operand}:Go1 (S P r m ⟨dst,.pick (.tmp t) x y,ty,pos,aft,gd⟩ A st k) (Ev (ev A.e (.tmp t)) (Gd (fun A=>Ev (ev A.e x) fun d=>k d st) (fun A=>Ev (ev A.e y) fun d=>k d st) (fun _=>False) A t true)):=⟨ZF⟩
instance dI {x:Operand}:Go1 (S P r m ⟨dst,.nilCheck x,ty,pos,aft,gd⟩ A st k) (Ev (Qe (ev A.e x)) fun d=>k d st):=⟨bN⟩
instance cA {t:TypeId}{x:Operand}:Go1 (S P r m ⟨dst,.load t x,ty,pos,aft,gd⟩ A st k) (Ev (ev A.e x) fun d=>Hy P m t d st k):=⟨ZH⟩
instance dM {t:TypeId}{cs:List D}:Go1 (Hy P m t (.ip cs) st k) (Ev (FE P t cs) fun d=>k d st):=⟨ci⟩
instance cD {t:TypeId}{b off:Nat}:Go2 (Hy P m t (.ptr b off) st k) (Ev ((roM m st).lookup b) fun cs=>Ev (FE P t (cs.drop off)) fun d=>k d st):=⟨ZU⟩
instance aK {t:TypeId}{x y:Operand}:Go1 (S P r m ⟨dst,.index t x y,ty,pos,aft,gd⟩ A st k) (Ev (Qg (Iw P t) (ev A.e x) (Fh (ev A.e y))) fun d=>k d st):=⟨Xt⟩
instance WO {t:TypeId}{x y:Operand}:Go1 (S P r m ⟨dst,.indexAddr t x y,ty,pos,aft,gd⟩ A st k) (Ev (Qg (Dc P t) (ev A.e x) (Fh (ev A.e y))) fun d=>k d st):=⟨Np⟩
instance aJ {t:TypeId}{x:Operand}{lo hi mx:Option Operand}:Go2 (S P r m ⟨dst,.slice t x lo hi mx,ty,pos,aft,gd⟩ A st k) (Ev (aSl (Iv P t) (ev A.e x) (Cy A.e lo) (Cy A.e hi) (Cy A.e mx)) fun d=>k d st):=⟨Xp⟩
instance aM {t:TypeId}{ps:Array (Nat×Operand)}:Go1 (S P r m ⟨dst,.build t ps,ty,pos,aft,gd⟩ A st k) (Ev ((evP A.e ps.toList).bind (Iz P t)) fun d=>k d st):=⟨Xv⟩
instance VY {t:TypeId}{n:Nat}{ps:Array (Nat×Operand)}:Go2 (S P r m ⟨dst,.buildSlice t n ps,ty,pos,aft,gd⟩ A st k) (Ev ((evP A.e ps.toList).bind (CG P t n)) fun d=>k d st):=⟨Mn⟩
instance fg {fn:Fn}{a b:Array Operand}:Go1 (S P r m ⟨dst,.makeFunc fn a b,ty,pos,aft,gd⟩ A st k) (Ev (aMk fn (evL A.e a.toList) (evL A.e b.toList)) fun d=>k d st):=⟨eP⟩
instance aI {t:TypeId}{x y:Operand}:Go1 (S P r m ⟨dst,.store t x y,ty,pos,aft,gd⟩ A st k) (Ev (ev A.e x) fun d=>Ev (ev A.e y) fun d'=>YX P m t d d' st k):=⟨Xo⟩
instance aN {t:TypeId}:Go1 (S P r m ⟨dst,.alloc t,ty,pos,aft,gd⟩ A st k) (Ev (RB P t) fun cs=>AlK m t cs st k):=⟨Xw⟩
instance AV {g:Operand}{args:Array Operand}{tys:Array TypeId}:Go2 (S P r m ⟨dst,.call ⟨.value g,args,tys⟩,ty,pos,aft,gd⟩ A st k) (Ev (LZ (ev A.e g) (evL A.e args.toList)) fun p=>Gw P m p st k):=⟨Bl⟩
instance fh {t:TypeId}{x:Operand}:Go2 (S P r m ⟨dst,.box t x,ty,pos,aft,gd⟩ A st k) (Ev ((ev A.e x).bind YE) fun d=>k d st):=⟨eR⟩
instance (priority:=high) i_s_app {t:TypeId}{x y:Operand}:Go2 (S P r m ⟨dst,.call ⟨.builtin .append,#[x,y],#[t,t]⟩,ty,pos,aft,gd⟩ A st k) (Ev (DP (ev A.e x) (ev A.e y)) fun p=>Zc P m t p st k):=⟨bU⟩
instance dW {t:TypeId}{p:D×D}:Go2 (Zc P m t p st k) (Ev (EV P t) fun q=>WN m q p st k):=⟨dg⟩
instance dL {t u:TypeId}{x y:Operand}:Go2 (S P r m ⟨dst,.call ⟨.builtin .append,#[x,y],#[t,u]⟩,ty,pos,aft,gd⟩ A st k) (Ev (DP (ev A.e x) (ev A.e y)) fun p=>Za P m t u p st k):=⟨bT⟩
instance dV {t u:TypeId}{p:D×D}:Go2 (Za P m t u p st k) (Ev (GU P u) fun b=>b=true∧Ev (EV P t) fun q=>Zb m q p st k):=⟨cZ⟩
instance aO {p:Prop}:Go1 (true=true∧p) (p):=⟨XU⟩
instance cr {x y:Code}:Go2 (Tr P N r (.seq x y) A st Q) (Tr P N r x A st (DI (fun A' st'=>Tr P N r y A' st' Q) Q)):=⟨Us⟩
instance ab {id:Nat}{c:Code}:Go1 (Tr P N r (.block id c) A st Q) (Tr P N r c A st (Eu id Q)):=⟨Uy⟩
instance aG:Go1 (Tr P N r .skip A st Q) (Q .normal A st):=⟨WY⟩
instance cu:Go1 (Tr P N r .ret A st Q) (Q .ret A st):=⟨ZC⟩
instance aH {id:Nat}:Go1 (Tr P N r (.exit id) A st Q) (Q (.exit id) A st):=⟨Xb⟩
instance ZZ {l:Nat}:Go1 (Tr P N r (.label l) A st Q) (Q .normal A st):=⟨Ut⟩
instance Yo:Go1 (DI K Q .normal A st) (K A st):=⟨OU⟩
instance Zj:Go1 (DI K Q .ret A st) (Q .ret A st):=⟨Sb⟩
instance Yp:Go1 (DI K Q (.exit id) A st) (Q (.exit id) A st):=⟨OV⟩
instance ah:Go1 (Eu id Q .normal A st) (Q .normal A st):=⟨Wv⟩
instance aP:Go1 (Eu id Q .ret A st) (Q .ret A st):=⟨YG⟩
instance af:Go1 (Eu id Q (.exit id) A st) (Q .normal A st):=⟨Wu⟩
instance aa {t:Tmp}{x y:Code}:Go1 (Tr P N r (.cond (.tmp t) x y) A st Q) (Ev (ev A.e (.tmp t)) (Gd (fun A=>Tr P N r x A st Q) (fun A=>Tr P N r y A st Q) (fun _=>False) A t true)):=⟨Uw⟩
instance Zh {x y:Code}:Go1 (Tr P N r (.cond (.const (.bool true)) x y) A st Q) (Tr P N r x A st Q):=⟨RX⟩
instance Zi {x y:Code}:Go1 (Tr P N r (.cond (.const (.bool false)) x y) A st Q) (Tr P N r y A st Q):=⟨RY⟩
end
class LkI (b:Nat)(st:St)(bt:outParam TypeId)(cs:outParam (List D)):Prop where
 go:Res.box b bt cs∈st
instance dC {b:Nat}{bt:TypeId}{cs:List D}{st:St}:LkI b (.box b bt cs::st) bt cs:=⟨List.Mem.head _⟩
instance (priority:=low) lk_there {b:Nat}{bt:TypeId}{cs:List D}{x:Res}{st:St}[h:LkI b st bt cs]:LkI b (x::st) bt cs:=⟨List.Mem.tail _ h.go⟩
class StI (b:Nat)(st:St)(bt:outParam TypeId)(cs:outParam (List D))(s1:outParam (List D→St)):Prop where
 go:∀cs',ResAt (.box b bt cs) (.box b bt cs') st (s1 cs')
instance dw {b:Nat}{bt:TypeId}{cs:List D}{st:St}:StI b (.box b bt cs::st) bt cs (fun cs'=>.box b bt cs'::st):=⟨fun _=>ResAt.here⟩
instance (priority:=low) st_there {b:Nat}{bt:TypeId}{cs:List D}{x:Res}{st:St}{s1:List D→St}[h:StI b st bt cs s1]:StI b (x::st) bt cs (fun cs'=>x::s1 cs'):=⟨fun cs'=>ResAt.there (h.go cs')⟩
instance eY {b:Nat}{bt:TypeId}{cs:List D}{x:Res}{l st:St}[h:LkI b (x::(l++st)) bt cs]:LkI b ((x::l)++st) bt cs:=⟨h.go⟩
instance dD {b:Nat}{bt:TypeId}{cs:List D}{st:St}[h:LkI b st bt cs]:LkI b ([]++st) bt cs:=⟨h.go⟩
instance eM {b:Nat}{bt:TypeId}{cs:List D}{x:Res}{l st:St}{s1:List D→St}[h:StI b (x::(l++st)) bt cs s1]:StI b ((x::l)++st) bt cs s1:=⟨h.go⟩
instance dy {b:Nat}{bt:TypeId}{cs:List D}{st:St}{s1:List D→St}[h:StI b st bt cs s1]:StI b ([]++st) bt cs s1:=⟨h.go⟩
class KpI (m:Option Ro)(st:St):Prop where
 go:AE m st
instance dE {st:St}:KpI none st:=⟨Tw⟩
instance eZ {st:St}:KpI (some []) st:=⟨An⟩
instance fv {st:St}:KpI (some (Gp st)) st:=⟨Yj⟩
instance (priority:=low) kp_cons {m:Option Ro}{x:Res}{st:St}[h:KpI m st]:KpI m (x::st):=⟨Tx h.go⟩
instance fa {m:Option Ro}{x:Res}{l st:St}[h:KpI m (x::(l++st))]:KpI m ((x::l)++st):=⟨h.go⟩
instance dF {m:Option Ro}{st:St}[h:KpI m st]:KpI m ([]++st):=⟨h.go⟩
section
variable {P:Program} {st:St} {m:Option Ro} {k:D→St→Prop} {t:TypeId} {b off:Nat} {bt:TypeId} {cs:List D}
instance (priority:=high) i_lk_mem [h:LkI b st bt cs]:Go2 (Hy P none t (.ptr b off) st k) (Ev (FE P t (cs.drop off)) fun d=>k d st):=⟨ZV h.go⟩
instance cx {d':D}{s1:List D→St}[h:StI b st bt cs s1]:Go2 (YX P m t (.ptr b off) d' st k) (Ev (UB P t cs off d'.cells) fun cs'=>AE m (s1 cs')∧k D.un (s1 cs')):=⟨ZD h.go⟩
instance fj {p:Prop}[h:KpI m st]:Go2 (AE m st∧p) p:=⟨fun k=>⟨h.go,k⟩⟩
end
class Tst (p A:Prop)(B:outParam Prop):Prop where
 go:B→p→A
instance (priority:=low) tst_def {p A:Prop}:Tst p A (p→A):=⟨id⟩
instance d6 {a:Bool}{A B:Prop}[h:Tst (a=false) A B]:Tst ((!a)=true) A B:=⟨fun b k=>h.go b (eW k)⟩
instance d7 {a:Bool}{A B:Prop}[h:Tst (a=true) A B]:Tst ((!a)=false) A B:=⟨fun b k=>h.go b (eX k)⟩
instance ed {q A:Prop}[Decidable q]:Tst (decide q=true) A (q→A):=⟨fun b k=>b (of_decide_eq_true k)⟩
instance ee {q A:Prop}[Decidable q]:Tst (decide q=false) A (¬q→A):=⟨fun b k=>b (of_decide_eq_false k)⟩
instance d8 {α:Type}[DecidableEq α]{a b:α}{A:Prop}:Tst ((a == b)=true) A (a=b→A):=⟨fun h k=>h (of_decide_eq_true k)⟩
instance d9 {α:Type}[DecidableEq α]{a b:α}{A:Prop}:Tst ((a == b)=false) A (¬a=b→A):=⟨fun h k=>h (of_decide_eq_false k)⟩
instance (priority:=500) tst_lt {α:Type}[BEq α][LawfulBEq α]{a b:α}{A:Prop}:Tst ((a == b)=true) A ((a == b)=true→a=b→A):=⟨fun h k=>h k (eq_of_beq k)⟩
instance (priority:=500) tst_lf {α:Type}[BEq α][LawfulBEq α]{a b:α}{A:Prop}:Tst ((a == b)=false) A ((a == b)=false→a≠b→A):=⟨fun h k=>h k (ne_of_beq_false k)⟩
instance dt {a b:Int}{A:Prop}:Tst ((a != b)=true) A ((a != b)=true→a≠b→A):=⟨fun h k=>h k (cR k)⟩
instance du {a b:Int}{A:Prop}:Tst ((a != b)=false) A ((a != b)=false→a=b→A):=⟨fun h k=>h k (cT k)⟩
class Go3 (p:Prop)(q q':outParam Prop):Prop where
 go:q→q'→p
section
variable {P:Program} {N:Nat} {r:Option Nat} {A:AA} {st:St} {Q:Exit→AA→St→Prop} {K:AA→St→Prop} {l:List Oper} {ops:Array Oper} {K1 K0 KF:AA→Prop} {t:Tmp} {c:Bool} {B1 B0:Prop} {dst:Option Tmp} {op:Op} {ty:TypeId} {pos:String} {aft:Array Edge}
instance fC [h1:Tst (c=true) (K1 (A.put (some t) (.s (.bool true)))) B1][h0:Tst (c=false) (K0 (A.put (some t) (.s (.bool false)))) B0]:Go3 (Gd K1 K0 KF A t true (.s (.bool c))) B1 B0:=⟨fun x y=>cK (h1.go x) (h0.go y)⟩
instance fD [h1:Tst (c=false) (K1 (A.put (some t) (.s (.bool false)))) B1][h0:Tst (c=true) (K0 (A.put (some t) (.s (.bool true)))) B0]:Go3 (Gd K1 K0 KF A t false (.s (.bool c))) B1 B0:=⟨fun x y=>cL (h1.go x) (h0.go y)⟩
theorem aW{id:Nat}(hl:(P.follows .mixedOrders && (EI .any l.toArray && CP N l))=true)(h:W P r (some []) l.toArray (Q .normal) l A st):Tr P N r (.region id l.toArray true) A st Q:=by
 rw[Bool.and_eq_true,Bool.and_eq_true] at hl
 exact Cm [] hl.1 hl.2.1 hl.2.2 Ls h
end
end
section
theorem GR:Own.tight≠Own.shared:=fun h=>by cases h
theorem Q1{p q:Prop}[h:Go1 p q](x:q):p:=h.go x
theorem Q2{p q:Prop}[h:Go2 p q](x:q):p:=h.go x
theorem Q3a{p q q':Prop}[h:Go3 p q q'](x:q)(y:q':=by(intro hb;(try with_reducible intro hb1);exfalso;first|contradiction|omega)):p:=h.go x y
theorem Q3b{p q q':Prop}[h:Go3 p q q'](y:q')(x:q:=by(intro hb;(try with_reducible intro hb1);exfalso;first|contradiction|omega)):p:=h.go x y
class IsEv (p:Prop)(α:outParam Type)(x:outParam (Option α))(k:outParam (α→Prop)):Prop where
 go:Ev x k→p
instance fo {α:Type}{x:Option α}{k:α→Prop}:IsEv (Ev x k) α x k:=⟨fun h=>h⟩
theorem Qe'{p:Prop}{α:Type}{x:Option α}{k:α→Prop}[i:IsEv p α x k]{d:α}(h:x=some d:=by((try simp(disch:=omega) only[push_cast,simprocAttr, *]);first|done|exact rfl|with_unfolding_all exact rfl)):k d→p:=fun hk=>i.go ⟨d,h,hk⟩
theorem Qf{p:Prop}(h:p:=by first|rfl|assumption|omega|(simp(disch:=omega) only[push_cast,simprocAttr, *];try omega;first|done|fail)):p:=h
section
variable {P:Program} {N:Nat} {r:Option Nat} {A:AA} {st:St} {Q:Exit→AA→St→Prop} {K:AA→St→Prop} {l:List Oper} {ops:Array Oper} {m:Option Ro} {k:D→St→Prop} {dst:Option Tmp} {op:Op} {ty:TypeId} {pos:String} {aft:Array Edge} {gd:Option (Nat×Bool)} {o:Oper} {id id':Nat}
class IsL (p:Prop)(ops:outParam (Array Oper))(o:outParam Oper)(q:outParam Prop):Prop where
 go:Ai ops=true→AO o=false→q→p
instance fA {ro:Ro}:IsL (W P r (some ro) ops K [⟨dst,op,ty,pos,aft,none⟩] A st) ops ⟨dst,op,ty,pos,aft,none⟩ (S P r (some []) ⟨dst,op,ty,pos,aft,none⟩ A st fun d st'=>K (A.put dst d) st'):=⟨Zw⟩
theorem Ql{p q:Prop}[i:IsL p ops o q](h:q)(hf:AO o=false:=by with_unfolding_all rfl)(hl:Ai ops=true:=by kernel_rfl):p:=i.go hl hf h
class IsS (p:Prop)(d:outParam (Option Tmp))(q:outParam (Tmp→Prop)):Prop where
 go:∀t,d=some t→q t→p
instance fz {j:Nat}{b:Bool}:IsS (W P r m ops K (⟨dst,op,ty,pos,aft,some (j,b)⟩::l) A st) ((ops[j]?).bind (·.dst)) (fun t=>Ev (ev A.e (.tmp t)) (Gd (fun A=>S P r m ⟨dst,op,ty,pos,aft,some (j,b)⟩ A st fun d st'=>W P r m ops K l (A.put dst d) st') (fun A=>W P r m ops K l (A.put dst D.un) st) (fun A=>W P r m ops K l (A.put dst D.un) st) A t b)):=⟨fun _ h1 h2=>WQ h1 h2⟩
theorem Qs{p:Prop}{d:Option Tmp}{q:Tmp→Prop}[i:IsS p d q]{t:Tmp}(h:q t)(ht:d=some t:=by with_unfolding_all rfl):p:=i.go t ht h
class Go4 (p:Prop)(s q:outParam Prop):Prop where
 go:s→q→p
class Go5 (p:Prop)(s q:outParam Prop):Prop where
 go:s→q→p
instance fX {b:Builtin}{args:Array Operand}{tys:Array TypeId}:Go4 (S P r m ⟨dst,.call ⟨.builtin b,args,tys⟩,ty,pos,aft,gd⟩ A st k) (AO ⟨dst,.call ⟨.builtin b,args,tys⟩,ty,pos,aft,gd⟩=true) (Ev ((evL A.e args.toList).bind (aBi P b tys.toList)) fun d=>k d st):=⟨eS⟩
instance fV:Go4 (Eu id Q (.exit id') A st) ((id' == id)=false) (Q (.exit id') A st):=⟨ay⟩
instance fU {id:Nat}{a:Array Oper}:Go5 (Tr P N r (.region id a false) A st Q) (CP N a.toList=true) (W P r none a (Q .normal) a.toList A st):=⟨fun h1 h2=>Ul (l:=a.toList) h1 h2⟩
instance fW {id:Nat}{a:Array Oper}:Go5 (Tr P N r (.region id a true) A st Q) ((P.follows .mixedOrders && (EI .any a && CP N a.toList))=true) (W P r (some []) a (Q .normal) a.toList A st):=⟨fun h1 h2=>aW (l:=a.toList) h1 h2⟩
theorem Q4{p s q:Prop}[i:Go4 p s q](h:q)(hs:s:=by with_unfolding_all rfl):p:=i.go hs h
theorem Q5{p s q:Prop}[i:Go5 p s q](h:q)(hs:s:=by kernel_rfl):p:=i.go hs h
class IsApp (p:Prop)(m:outParam (Option Ro))(el:outParam TypeId)(sz bytes:outParam Nat)(ow oy:outParam Own)(es ys:outParam (List (List D)))(st:outParam St)(k:outParam (D→St→Prop)):Prop where
 go:WN m (el,sz,bytes) (.sl ow es,.sl oy ys) st k→p
instance dP {el:TypeId}{sz bytes:Nat}{ow oy:Own}{es ys:List (List D)}:IsApp (WN m (el,sz,bytes) (.sl ow es,.sl oy ys) st k) m el sz bytes ow oy es ys st k:=⟨fun h=>h⟩
class RmI (o:Own)(el:TypeId)(sz:Nat)(st:St)(n:outParam Nat)(s1:outParam (Nat→Own→St)):Prop where
 go:∀n' o',ResAt (.room o el sz n) (.room o' el sz n') st (s1 n' o')
instance dz {o:Own}{el:TypeId}{sz n:Nat}{st:St}:RmI o el sz (.room o el sz n::st) n (fun n' o'=>.room o' el sz n'::st):=⟨fun _ _=>ResAt.here⟩
instance (priority:=low) rm_there {o:Own}{el:TypeId}{sz n:Nat}{x:Res}{st:St}{s1:Nat→Own→St}[h:RmI o el sz st n s1]:RmI o el sz (x::st) n (fun n' o'=>x::s1 n' o'):=⟨fun n' o'=>ResAt.there (h.go n' o')⟩
instance eU {o:Own}{el:TypeId}{sz n:Nat}{x:Res}{l st:St}{s1:Nat→Own→St}[h:RmI o el sz (x::(l++st)) n s1]:RmI o el sz ((x::l)++st) n s1:=⟨h.go⟩
instance dA {o:Own}{el:TypeId}{sz n:Nat}{st:St}{s1:Nat→Own→St}[h:RmI o el sz st n s1]:RmI o el sz ([]++st) n s1:=⟨h.go⟩
theorem Qa{p:Prop}{el:TypeId}{sz bytes:Nat}{ow oy:Own}{es ys:List (List D)}[i:IsApp p m el sz bytes ow oy es ys st k]{n:Nat}{s1:Nat→Own→St}[j:RmI ow el sz st n s1](h:∀o',o'≠.shared→AE m (s1 (es++ys).length o')∧k (.sl o' (es++ys)) (s1 (es++ys).length o'))
 (h4:ow≠.shared:=by first|assumption|exact GR|exact row_ne)(h5:n=es.length:=by first|rfl|with_unfolding_all rfl|simp)
 (h6:∀a∈es,a.length=sz:=by first|assumption|with_unfolding_all assumption|exact IV|exact AF (by with_unfolding_all rfl)|((repeat' (first|assumption|with_unfolding_all assumption|exact IV|exact AF (by with_unfolding_all rfl)|refine len_app ?_ ?_|(intro a ha;obtain⟨x, -,rfl⟩:=List.mem_map.1 ha;first|with_unfolding_all rfl|simp)));first|done|fail)|(intro a ha;obtain⟨x, -,rfl⟩:=List.mem_map.1 ha;first|with_unfolding_all rfl|simp)|(intro a ha;simp at ha;simp[ha]))(h7:∀a∈ys,a.length=sz:=by first|assumption|with_unfolding_all assumption|exact IV|exact AF (by with_unfolding_all rfl)|((repeat' (first|assumption|with_unfolding_all assumption|exact IV|exact AF (by with_unfolding_all rfl)|refine len_app ?_ ?_|(intro a ha;obtain⟨x, -,rfl⟩:=List.mem_map.1 ha;first|with_unfolding_all rfl|simp)));first|done|fail)|(intro a ha;obtain⟨x, -,rfl⟩:=List.mem_map.1 ha;first|with_unfolding_all rfl|simp)|(intro a ha;simp at ha;simp[ha]))
 (h8:(es.length+ys.length)*bytes≤140737488355328:=by first|omega|(simp only[List.length_map,List.length_cons,List.length_nil,List.length_append];omega))(h9:es.length+ys.length≤140737488355328:=by first|omega|(simp only[List.length_map,List.length_cons,List.length_nil,List.length_append];omega)):p:=i.go (Zp h4 (fun o'=>h5▸j.go _ o') h6 h7 h8 h9 h)
class IsAps (p:Prop)(m:outParam (Option Ro))(el:outParam TypeId)(bytes:outParam Nat)(ow:outParam Own)(es:outParam (List (List D)))(str:outParam ByteArray)(st:outParam St)(k:outParam (D→St→Prop)):Prop where
 go:Zb m (el,1,bytes) (.sl ow es,.str str) st k→p
instance dN {el:TypeId}{bytes:Nat}{ow:Own}{es:List (List D)}{str:ByteArray}:IsAps (Zb m (el,1,bytes) (.sl ow es,.str str) st k) m el bytes ow es str st k:=⟨fun h=>h⟩
class IsC (p:Prop)(P:outParam Program)(m:outParam (Option Ro))(f:outParam FuncId)(ds:outParam (List D))(st:outParam St)(k:outParam (D→St→Prop)):Prop where
 go:Gw P m (f,ds) st k→p
instance fB {f:FuncId}{ds:List D}:IsC (Gw P m (f,ds) st k) P m f ds st k:=⟨fun h=>h⟩
theorem TrF.at{f:FuncId}{args:List D}{B B':Res}{X:D}{st1:St}(h:∀s,TrF P f args (B::s) fun d st'=>d=X∧st'=B'::s)(hat:ResAt B B' st st1):TrF P f args st fun d st'=>d=X∧st'=st1:=by
 obtain⟨s0,p1,p2⟩:=hat.perm
 exact TrF.permPost p1 ((h s0).mono fun d st' ⟨e1,e2⟩=>⟨_,⟨e1,rfl⟩,by subst e2;exact p2.symm⟩)
section
variable {f:FuncId} {ds ds':List D} {X:D} {s1:St}
theorem Qc{p:Prop}[i:IsC p P m f ds st k](henter:∀args w,(callFunc f args).run P w=.ok (.enter f args) w)(h:TrF P f ds st fun d st'=>d=X∧st'=s1)(hk:AE m s1∧k X s1):p:=i.go <| Rx henter h hk
theorem QA{p:Prop}[i:IsC p P m f ds st k][e:CE P f]{X:D}(hk:AE m st∧k X st)(h:Hid (∀s,TrF P f ds s fun d st'=>d=X∧st'=s):=by assumption):p:=i.go <| Rx e.go (h.out st) hk
theorem cQ{B B':Res}{st1:St}(henter:∀args w,(callFunc f args).run P w=.ok (.enter f args) w)(hle:LEL ds ds')(h:∀s,TrF P f ds' (B::s) fun d st'=>d=X∧st'=B'::s)(hat:ResAt B B' st st1)(hk:AE m st1∧k X st1):Gw P m (f,ds) st k:=Zo henter hle (TrF.at h hat) hk
theorem QRA{p:Prop}[i:IsC p P m f ds st k][e:CE P f]{B B':Res}{st1:St}{X:D}(hk:AE m st1∧k X st1)(h:Hid (∀s,TrF P f ds (B::s) fun d st'=>d=X∧st'=B'::s):=by assumption)(hat:ResAt B B' st st1:=by(repeat(first|exact Dl|apply Dk));first|done|fail):p:=i.go <| cQ e.go (LEL.refl _) h.out hat hk
theorem QL{p:Prop}[i:IsC p P m f ds st k](henter:∀args w,(callFunc f args).run P w=.ok (.enter f args) w)(h:TrF P f ds' st fun d st'=>d=X∧st'=s1)(hk:AE m s1∧k X s1)(hle:LEL ds ds':=by(repeat' (first|exact LEL.nil|refine LEL.cons ?_ ?_|exact LE.refl _|exact LE.sl _ _|refine LE.agg ?_));first|done|fail):p:=i.go <| Zo henter hle h hk
end
theorem UX{fn:Func}{ts:List Tmp}(hr:fn.results=(ts.map ResultVar.tmp).toArray)(hl:ts.length≤4)(tmps:Array Value)(w:World):(results fn tmps).run P w=.ok (Ep ts tmps) w:=by
 unfold results
 rw[hr]
 match ts,hl with
|[],_=>simp[go_sem,Ep]
|[a],_=>simp[go_sem,Ep]
|[a,b],_=>simp[go_sem,Ep]
|[a,b,c],_=>simp[go_sem,Ep]
|[a,b,c,d],_=>simp[go_sem,Ep]
|_::_::_::_::_::_,h=>simp at h
theorem Qin(ts:List Tmp){f:FuncId}{fn:Func}{c:Code}{n:Nat}{args:List D}{R:D→St→Prop}(hf:P.funcs[f]?=some fn)(hr:fn.results=(ts.map ResultVar.tmp).toArray)(hn:fn.ntmps=n)(h:Tr P n none c ⟨Gu args,[]⟩ st (Nw ts R))(hb:fn.body=some c:=by exact rfl)(ha:Nat.ble args.length n=true:=by exact rfl)(hl:ts.length≤4:=by decide):TrF P f args st R:=by
 subst hn
 exact KG hf hb (Nat.le_of_ble_eq_true ha) (UX hr hl) h
theorem YY(t:Tmp)(T:TypeId){f:FuncId}{fn:Func}{c:Code}{n:Nat}{args:List D}{R:D→St→Prop}(hf:P.funcs[f]?=some fn)(hn:fn.ntmps=n)(h:Tr P n none c ⟨Gu args,[]⟩ st (XB (IJ t T P) R))(hb:fn.body=some c:=by exact rfl)(ha:Nat.ble args.length n=true:=by exact rfl)(hr:fn.results=#[.cell t T]:=by exact rfl):TrF P f args st R:=by
 subst hn
 exact Je hf hb (Nat.le_of_ble_eq_true ha) (fun h1 h2 h3=>Nx hr h1 h2 h3) h
theorem Ar{ts:List Tmp}{X:D}{ex:Exit}{st0:St}(hex:ex=.normal∨ex=.ret:=by simp)(hdf:A.df=[]:=by first|rfl|assumption)(hs:st0.Sublist st:=by(repeat(first|exact List.Sublist.refl _|apply List.Sublist.cons));first|done|fail)
 (hd:LE (Jr ts A.e) X:=by(try simp(disch:=omega) only[push_cast,simprocAttr, *])<;>(first|exact LE.refl _|exact LE.sl _ _|((first|refine LE.tup ?_|refine LE.agg ?_);(repeat' (first|exact LEL.nil|refine LEL.cons ?_ ?_|exact LE.refl _|exact LE.sl _ _|refine LE.agg ?_));first|done|fail))):Nw ts (fun d st'=>d=X∧st'=st0) ex A st:=ZK hex hdf hs hd
theorem Q3c{p q q':Prop}[h:Go3 p q q'](x:q∧q'):p:=h.go x.1 x.2
theorem q_u{p:Prop}(h:p:=by(repeat(first|exact List.Sublist.refl _|apply List.Sublist.cons));first|done|fail):p:=h
theorem q_t{p:Prop}(h:p:=by(repeat(first|exact List.Sublist.refl _|with_reducible apply List.Sublist.cons_cons|apply List.Sublist.cons));first|done|fail):p:=h
theorem q_m{p:Prop}(h:p:=by(repeat(first|exact Od|apply Oc));first|done|fail):p:=h
theorem q_s{p:Prop}(h:p:=by simp(disch:=omega) only[push_cast,simprocAttr, *];exact rfl):p:=h
theorem q_v{p:Prop}(h:p:=by(try simp(disch:=omega) only[push_cast,simprocAttr, *]);(try exact rfl);first|done|fail):p:=h
theorem q_w{p:Prop}(h:p:=by show _=_;(try simp(disch:=omega) only[push_cast,simprocAttr, *]);(try exact rfl);first|done|fail):p:=h
theorem q_x{p:Prop}(h:p:=by first|exact .inl rfl|exact .inr rfl):p:=h
theorem q_y{p:Prop}(h:p:=by first|rfl|assumption):p:=h
theorem q_l{p:Prop}(h:p:=by first|exact LEL.refl _|((repeat' (first|exact LEL.nil|refine LEL.cons ?_ ?_|exact LE.refl _|exact LE.sl _ _|refine LE.agg ?_));first|done|fail)):p:=h
theorem q_e{p:Prop}(h:p:=by first|exact LE.refl _|exact LE.sl _ _|((first|refine LE.tup ?_|refine LE.agg ?_);(repeat' (first|exact LEL.nil|refine LEL.cons ?_ ?_|exact LE.refl _|exact LE.sl _ _|refine LE.agg ?_));first|done|fail)):p:=h
theorem QX{p q:Prop}(h:q)(s:q→p:=by with_reducible first|exact Q1|exact Qe'|exact Ql|exact Q2|exact Qs|exact Q4|exact QA|exact QRA|exact Q5|fail):p:=s h
theorem QV{p q:Prop}(h:q)(s:q→p:=by with_reducible first|exact Q1|exact Qe'|fail):p:=s h
theorem QY{p q:Prop}(h:q)(s:q→p:=by with_reducible first|exact Ql|exact Q2|exact Qs|exact Q4|exact QA|exact QRA|exact Q5|fail):p:=s h
theorem QB{p q:Prop}(h:q)(s:q→p:=by with_reducible exact de):p:=s h
theorem QP{p q:Prop}(h:q)(s:q→p:=by with_reducible first|exact fun h=>Qa h|exact fun h=>Qp h|fail):p:=s h
theorem QZ{p q:Prop}(h:q)(s:q→p:=by with_reducible first|exact Q3a|exact Q3b|exact Q3c|fail):p:=s h
theorem WR{p:Prop}(h:p:=by(repeat' (first|refine QX ?_|(refine QB ?_;intro b)|(with_reducible refine QZ ?_<;>(try constructor)<;>intro hb<;>try intro hb1)|fail));all_goals exact Ar):p:=h
theorem WRa{p:Prop}(h:p:=by(repeat' (first|refine QX ?_|(refine QB ?_;intro b)|(refine QP ?_;intro o' ho')|(with_reducible refine QZ ?_<;>(try constructor)<;>intro hb<;>try intro hb1)|fail));all_goals exact Ar):p:=h
theorem ON{t:Tmp}{T:TypeId}{ti:TI}{ex:Exit}{b off:Nat}{ty:TypeId}{cs:List D}{X d:D}{st0:St}{R:D→St→Prop}(hex:ex=.normal∨ex=.ret:=by simp)(hdf:A.df=[]:=by first|rfl|assumption)(hp:A.e t=.ptr b off:=by((try simp(disch:=omega) only[push_cast,simprocAttr, *]);(try exact rfl);first|done|fail))(hm:Res.box b ty cs∈st:=by(repeat(first|exact Od|apply Oc));first|done|fail)(ht:Ag P T=some ti:=by(simp(disch:=omega) only[push_cast,simprocAttr, *];exact rfl))(hd:Eb ti (cs.drop off)=some d:=by((try simp(disch:=omega) only[push_cast,simprocAttr, *]);(try exact rfl);first|done|fail))
 (hR:R X st0:=by exact⟨rfl,rfl⟩)(hs:st0.Sublist st:=by(repeat(first|exact List.Sublist.refl _|apply List.Sublist.cons));first|done|fail)
 (hl:LE d X:=by(try simp(disch:=omega) only[push_cast,simprocAttr, *])<;>(first|exact LE.refl _|exact LE.sl _ _|((first|refine LE.tup ?_|refine LE.agg ?_);(repeat' (first|exact LEL.nil|refine LEL.cons ?_ ?_|exact LE.refl _|exact LE.sl _ _|refine LE.agg ?_));first|done|fail))):XB (IJ t T P) R ex A st:=SA hex hdf hp hm ht hd hs hl hR
end
end
section
section
variable {P:Program} {N:Nat} {r:Option Nat} {A:AA} {st:St} {Q:Exit→AA→St→Prop} {m:Option Ro} {k:D→St→Prop} {dst:Option Tmp} {ty:TypeId} {pos:String} {aft:Array Edge} {gd:Option (Nat×Bool)} {o:Oper} {w:World}
def ZP (P:Program)(t:TypeId):Option (TypeId×Nat×Value):=(Ag P t).bind fun ti=>match ti.k with
|.slice el 1 bytes [z]=>if CJ z && (AN z).leaf then some (el,bytes,z) else none
|_=>none
def gn (P:Program)(m:Option Ro)(t:TypeId)(p:D×D)(st:St)(k:D→St→Prop):Prop :=
 ∃(kd:IntKind) (n:Nat) (el:TypeId) (bytes:Nat) (z:Value),p=(.s (.int kd n),.s (.int kd n))∧ZP P t=some (el,bytes,z)∧n*bytes≤140737488355328∧n≤140737488355328∧∀g,AE m (.box g el (List.replicate n (AN z))::st)∧k (.ar g 0 n n) (.box g el (List.replicate n (AN z))::st)
def gq (m:Option Ro)(q:TypeId×Nat×Value)(n:Nat)(st:St)(k:D→St→Prop):Prop:=(n*q.2.1≤140737488355328∧n≤140737488355328)∧∀g,AE m (.box g q.1 (List.replicate n (AN q.2.2))::st)∧k (.ar g 0 n n) (.box g q.1 (List.replicate n (AN q.2.2))::st)
theorem LU{sz:Nat}:∀(n:Nat) (cs:List D),(Dv sz n cs).length=n
|0,_=>rfl
|n+1,cs=>by rw[Dv,List.length_cons,LU n]
theorem Kj{sz:Nat}:∀(n:Nat) (cs:List D),n*sz≤cs.length→∀e∈Dv sz n cs,e.length=sz
|0,_,_,e,he=>by cases he
|n+1,cs,h,e,he=>by
  rw[Nat.succ_mul] at h
  rw[Dv] at he
  rcases List.mem_cons.1 he with rfl|he
  · rw[List.length_take];omega
  · exact Kj n _ (by rw[List.length_drop];omega) e he
theorem Ki{sz:Nat}:∀(n:Nat) (cs:List D),n*sz≤cs.length→(Dv sz n cs).flatten=cs.take (n*sz)
|0,cs,_=>by simp[Dv]
|n+1,cs,h=>by
  rw[Nat.succ_mul] at h
  rw[Dv,List.flatten_cons,Ki n _ (by rw[List.length_drop];omega),Nat.succ_mul,Nat.add_comm (n*sz) sz,List.take_add]
theorem Wb(ow:Own)(how:ow=.shared∨ow=.tight){g:Nat}{el:TypeId}{cs:List D}{s0:St}{v:Value}{sz off n cap:Nat}(hh:Holds (.box g el cs::s0) w)(hv:Rep (OwnS (.box g el cs::s0)) w v (.ar g off n cap))(hsz:0<sz)(hn:off+n*sz≤cs.length)(hcap:ow=.tight→cap=n):Rep (OwnS s0) w v (.sl ow (Dv sz n (cs.drop off))):=by
 cases hv with
|ar _ _ _ _ c1 c2 =>
  obtain⟨⟨us,hb,hr⟩,hlc⟩:=hh.2 _ (List.mem_cons_self ..)
  have he:Ext (OwnS (.box g el cs::s0)) w (OwnS s0) w:=Ext.drop (fun _ h=>List.mem_cons_of_mem _ h) w
  have hr:=hr.ext he
  have hd:n*sz≤(cs.drop off).length:=by rw[List.length_drop];omega
  have hfl:=Ki (sz:=sz) n (cs.drop off) hd
  have hlen:=LU (sz:=sz) n (cs.drop off)
  have hsl:us.toList.length=cs.length:=hr.1
  have hrl:RepL (OwnS s0) w ((us.toList.drop off).take (n*sz)) (Dv sz n (cs.drop off)).flatten:=by rw[hfl];exact(hr.drop _).take _
  have hne:∀o,¬OwnS s0 g o:=fun o ho=>by
   obtain⟨x,hx,hxb,_⟩:=ho
   exact(List.pairwise_cons.1 hh.1).1 x hx g rfl hxb
  have:=Rep.sl (O:=OwnS s0) (w:=w) ow (Dv sz n (cs.drop off)) (some ⟨g,off,none⟩) cap ((us.toList.drop off).take (n*sz)) sz q_o c2 (fun e=>by cases e) hsz (Kj n _ hd) hrl.1 (fun d hd'=>by
   rw[hfl] at hd'
   exact hlc d (List.mem_of_mem_drop (List.mem_of_mem_take hd'))) (fun i hi=>⟨g,off,rfl,(Array.getElem?_eq_some_iff.1 hb).1,hne _,by
    rw[cell_of_row _ g (off+i) us el (0,0) hb]
    rw[List.getElem_take,List.getElem_drop]
    simp at hi
    rw[Array.getElem?_eq_getElem q_o]
    simp⟩) hrl.2 (by
    rcases how with rfl|rfl
    · trivial
    · show cap=_;rw[hlen];exact hcap rfl)
  rwa[hlen] at this
theorem Mm{t t':TypeId}{x:Operand}{ow:Own}{es:List (List D)}{q:TypeId×Nat×Nat}(ht:EV P t=some q)(hx:ev A.e x=some (.sl ow es))(hk:∀b:Bool,(b=true→es=[])→k (.b b) st):S P r none ⟨dst,.binOp .eql t x (.const (.slice none 0 0)) t',ty,pos,aft,gd⟩ A st k:=by
 refine AU (by intro c hc;cases hc) fun ρ w hr hh=>.inl ?_
 have hv1:=hr _ (by simp[Op.operands]) _ hx
 have hv2:=hr.cst (.slice none 0 0)
 obtain⟨el,sz,bytes⟩:=q
 obtain⟨ti,z,h10,h11⟩:=DZ ht
 obtain⟨hu, -⟩:=(Ap h10).2.2.2.2.1 _ _ _ _ h11
 obtain⟨a,cap0,us,sz1,e1,c1,c2,c3,c4,c5,c6,c7,c8,c9,c10⟩:=Bo hv1
 refine⟨.bool a.isNone,w,?_,_,_,.s (.bool a.isNone) rfl,hh,Ext.refl _ _,hk a.isNone fun hb=>?_⟩
 · unfold execOp
   have hrun:(binOp .eql t (.slice a es.length cap0) (.slice none 0 0)).run P w=.ok (.bool a.isNone) w:=by
    simp only[binOp]
    simp[run_equal_slice_nil w t el a es.length cap0 hu]
   simp only[e1,hv2,Sem.run_bind,AP .eql t x (.const (.slice none 0 0)) (.slice a es.length cap0) (.slice none 0 0) (fun u=>by simp) (fun u v=>by simp),hrun,Result.andThen_ok,Sem.run_pure]
 · have:a=none:=by simpa using hb
   have:=c8 this
   exact List.eq_nil_of_length_eq_zero q_o
def ax (d:D):Option (List D) :=
 match d.cells.all D.leaf with
|true=>some d.cells
|false=>none
theorem Co{t:TypeId}{x:Operand}(h:Ev ((ev A.e x).bind ax) fun cs=>AlK none t cs st k):S P r none ⟨dst,.box t x,ty,pos,aft,gd⟩ A st k:=by
 obtain⟨cs,h1,h2⟩:=h
 cases hx:ev A.e x with
|none=>rw[hx] at h1;cases h1
|some d =>
  rw[hx,Option.bind_some] at h1
  unfold ax at h1
  split at h1
  · rename_i hl;cases h1;exact XY rfl hx hl fun b=>(h2 b).2
  · cases h1
section
variable {f:FuncId} {ds ds':List D} {X:D}
end
def cn (P:Program)(t:TypeId):Option Bool:=(Ag P t).bind fun ti=>match ti.k with
|.int _=>some true
|_=>none
def ge (P:Program)(m:Option Ro)(t u:TypeId)(p:D×D)(st:St)(k:D→St→Prop):Prop :=
 ∃(kd:IntKind) (n:Nat) (el:TypeId) (bytes:Nat) (z:Value) (b:Bool),p=(.sl .tight [],.s (.int kd n))∧0<n∧ZP P t=some (el,bytes,z)∧cn P u=some b∧n*bytes≤140737488355328∧n≤140737488355328∧∀g cap,n≤cap→AE m (.box g el (List.replicate cap (AN z))::st)∧k (.ar g 0 n cap) (.box g el (List.replicate cap (AN z))::st)
def gg (m:Option Ro)(q:TypeId×Nat×Value)(n:Nat)(st:St)(k:D→St→Prop):Prop:=(0<n∧n*q.2.1≤140737488355328∧n≤140737488355328)∧∀g cap,n≤cap→AE m (.box g q.1 (List.replicate cap (AN q.2.2))::st)∧k (.ar g 0 n cap) (.box g q.1 (List.replicate cap (AN q.2.2))::st)
end
section
variable {P:Program} {t:TypeId} {a b:Int} {k':IntKind}
theorem Xj(h0:0≤b)(h1:b≤64):Bp P .shr t (.s (.int .u64 a)) (.s (.int k' b))=some (.s (.int .u64 (a / 2 ^ b.toNat))):=MO h0 h1
theorem Xl(h0:0≤b)(h1:b≤64):Bp P .shl t (.s (.int .u64 a)) (.s (.int k' b))=some (.s (.int .u64 (IntKind.u64.wrap (a*2 ^ b.toNat)))):=MP h0 h1
theorem Xk(h0:0≤b)(h1:b≤64):Bp P .shr t (.s (.int .i64 a)) (.s (.int k' b))=some (.s (.int .i64 (a / 2 ^ b.toNat))):=MO h0 h1
theorem Xm(h0:0≤b)(h1:b≤64):Bp P .shl t (.s (.int .i64 a)) (.s (.int k' b))=some (.s (.int .i64 (IntKind.i64.wrap (a*2 ^ b.toNat)))):=MP h0 h1
end
theorem Wy(l:List UInt8):(l.map Ad).all (fun e=>e.length == 1)=true:=by
 rw[List.all_map];exact List.all_eq_true.2 fun _ _=>rfl
theorem Wx(l:List Int):(l.map Ae).all (fun e=>e.length == 1)=true:=by
 rw[List.all_map];exact List.all_eq_true.2 fun _ _=>rfl
attribute [push_cast] Option.isSome_some ax Nat.add_sub_cancel Nat.add_sub_cancel_left Nat.sub_zero Wy Wx Xj Xl Xk Xm cn ZP
end
section
open Go.RowKit Go.ChangeShapes Go.WideShapes
def Km {α:Type}(n:Nat)(P:Program)(t:TypeId)(e:α→List D)(ok:α→Prop):Prop :=
 ∀(H:Type) (enc:TypeId×Value→H) (W:World) (fuel:Nat) (cs:List Value) (x:DataW H×List MemPlace),fuel≤n →
  DataW.trod enc P W 0 (fun _=>true) true fuel t cs=some x→∃a,RepL (OwnS []) W cs (e a)∧ok a
def BZ {α:Type}(P:Program)(t:TypeId)(e:α→List D)(ok:α→Prop):Prop:=∀n,Km n P t e ok
section
variable {P:Program} {t:TypeId} {n:Nat} {W:World}
theorem Ay{k:IntKind}(ht:P.underlying t=some (.int k)):BZ P t (fun a:Int=>[.s (.int k a)]) fun a=>(Lit.int k a).wf=true:=by
 intro n H enc W fuel cs x _ h
 obtain⟨a,rfl, -,hw⟩:=DataW.trod_int ht h
 exact⟨a,.cons (.s _ rfl) .nil,hw⟩
theorem GF(ht:P.underlying t=some .bool):BZ P t (fun a:Bool=>[.b a]) fun _=>True:=by
 intro n H enc W fuel cs x _ h
 obtain⟨a,rfl, -⟩:=DataW.trod_bool ht h
 exact⟨a,.cons (.s _ rfl) .nil,trivial⟩
theorem Ds(ht:P.underlying t=some .string):BZ P t (fun a:ByteArray=>[.str a]) fun a=>a.size≤maxLen:=by
 intro n H enc W fuel cs x _ h
 obtain⟨a,rfl, -,hs⟩:=DataW.trod_string ht h
 exact⟨a,.cons (.s _ rfl) .nil,hs⟩
theorem aq{α:Type}{k:Nat}{p:Nat→α→Prop}(h:∀i,i<k→∃a,p i a):∃l:List α,l.length=k∧∀i (hi:i<l.length),p i l[i]:=by
 induction k with
|zero=>exact⟨[],rfl,fun i hi=>absurd hi (Nat.not_lt_zero _)⟩
|succ k ih =>
  obtain⟨l,h1,h2⟩:=ih fun i hi=>h i q_o
  obtain⟨a,ha⟩:=h k q_o
  refine⟨l++[a],by simp[h1],fun i hi=>?_⟩
  rw[List.getElem_append]
  split
  · exact h2 i _
  · have:i=k:=by simp at hi;omega
    subst this;simpa using ha
theorem Wh{β : Type}{ls:List (List β)}{sz:Nat}(h:∀l∈ls,l.length=sz){i j:Nat}(hi:i<ls.length)(hj:j<sz) :
 ls.flatten[i*sz+j]?=(ls[i])[j]?:=by
 induction ls generalizing i with
|nil=>simp at hi
|cons l ls ih =>
  have hl:l.length=sz:=h l (by simp)
  cases i with
  | zero=>rw[List.flatten_cons,List.getElem?_append_left q_o];simp
  | succ i =>
   rw[List.flatten_cons,List.getElem?_append_right (by rw[hl,Nat.succ_mul];omega),hl,show(i+1)*sz+j - sz=i*sz+j by rw[Nat.succ_mul];omega,ih (fun l hl=>h l (by simp[hl])) (by simpa using hi)]
   simp
theorem TF{β:Type}{ls:List (List β)}{sz:Nat}(h:∀l∈ls,l.length=sz):ls.flatten.length=ls.length*sz:=by
 induction ls with
|nil=>simp
|cons l ls ih=>rw[List.flatten_cons,List.length_append,ih (fun l hl=>h l (by simp[hl])),h l (by simp),List.length_cons,Nat.succ_mul];omega
theorem OM{bk off k:Nat}:(Addr.mk bk off none).add k=⟨bk,off+k,none⟩:=by
 unfold Addr.add
 by_cases hk:k=0
 · subst hk;simp
 · simp[hk]
theorem KW{O:Nat→Nat→Prop}:∀{us:List (List Value)} {ds:List (List D)},us.length=ds.length→(∀i (h:i<us.length) (h':i<ds.length),RepL O W us[i] ds[i])→RepL O W us.flatten ds.flatten
|[],[],_,_=>.nil
|[],_::_,h,_=>by simp at h
|_::_,[],h,_=>by simp at h
|u::us,d::ds,hl,h=>by
  rw[List.flatten_cons,List.flatten_cons]
  exact(h 0 (by simp) (by simp)).append (KW (by simpa using hl) fun i h1 h2=>h (i+1) (by simpa using h1) (by simpa using h2))
theorem IB{α : Type}{e:TypeId}{sz:Nat}{f:α→List D}{ok:α→Prop}(ht:P.underlying t=some (.slice e))(hsz:P.cellsOf e=sz)(hp:0<sz)(h:Km n P e f ok)(hlen:∀a,(f a).length=sz)(hleaf:∀a,∀d∈f a,d.leaf=true) :
 Km (n+1) P t (fun l:List α=>[.sl .shared (l.map f)]) fun l=>(∀a∈l,ok a)∧l.length≤maxLen:=by
 intro H enc W fuel cs x hn hx
 rcases DataW.trod_slice ht hx with⟨rfl, -⟩|⟨a,len,cap,elems,rest,m,rfl,rfl, -, -,hlc,hcm,hel,hget, -, -⟩
 · refine⟨[],.cons ?_ .nil,⟨by simp,by simp⟩⟩
   exact .sl .shared [] none 0 [] 1 (Nat.le_refl _) (by simp) (fun _=>rfl) (Nat.lt_succ_self _) (by simp) rfl (by simp) (fun i hi=>absurd hi (by simp)) (fun i hi=>absurd hi (by simp)) trivial
 · have hone : ∀ i, i < len → ∃ p : α × List Value, W.cells? 0 (a.add (i * sz)) sz = some p.2 ∧ RepL (OwnS []) W p.2 (f p.1) ∧ ok p.1 := by
    intro i hi
    have h1:=hget i hi
    rw[hsz,List.getElem?_eq_getElem q_o] at h1
    obtain⟨cs',h2,h3⟩:=Option.bind_eq_some_iff.1 h1
    obtain⟨b,h4,h5⟩:=h H enc W m cs' _ q_o h3
    exact⟨(b,cs'),h2,h4,h5⟩
   obtain⟨l,hl,hl2⟩:=aq hone
   refine⟨l.map (·.1),.cons ?_ .nil,fun b hb=>?_,by simp;omega⟩
   · have hus : ∀ u ∈ l.map (·.2), u.length = sz := by
      intro u hu
      obtain⟨p,hp',rfl⟩:=List.mem_map.1 hu
      obtain⟨i,hi,rfl⟩:=List.getElem_of_mem hp'
      exact(World.cells?_some (hl2 i hi).1).2.1
     have hrl:RepL (OwnS []) W (l.map (·.2)).flatten ((l.map (·.1)).map f).flatten:=KW (by simp) fun i h1 h2=>by
      simp only[List.getElem_map]
      exact(hl2 i (by simpa using h1)).2.1
     have key:=Rep.sl (O:=OwnS []) (w:=W) .shared ((l.map (·.1)).map f) (some a) cap (l.map (·.2)).flatten sz (by simp;omega) hcm (fun h=>by cases h) hp
      (fun e he=>by obtain⟨b, -,rfl⟩:=List.mem_map.1 he;exact hlen b) hrl.1
      (fun d hd=>by obtain⟨q,hq,hd⟩:=List.mem_flatten.1 hd;obtain⟨b, -,rfl⟩:=List.mem_map.1 hq;exact hleaf b d hd)
      (fun i hi=>by
       have hfl:(l.map (·.2)).flatten.length=l.length*sz:=by rw[TF hus];simp
       have hi':i / sz<l.length:=by rw[hfl] at hi;exact Nat.div_lt_of_lt_mul (by rw[Nat.mul_comm];exact hi)
       obtain⟨-,c2,c3⟩:=World.cells?_some (hl2 _ hi').1
       have hj:i % sz<sz:=Nat.mod_lt _ hp
       have c4:=c3 _ hj
       have hidx:(l.map (·.2)).flatten[i / sz*sz+i % sz]?=(l[i / sz].2)[i % sz]?:=by
        rw[Wh hus (by simpa using hi') hj];simp
       have hi2:i / sz*sz+i % sz=i:=Nat.div_add_mod' i sz
       rw[hi2] at hidx
       rw[List.getElem?_eq_getElem hi] at hidx
       rw[←hidx] at c4
       obtain⟨bk,off,sp⟩:=a
       have hsp:sp=none:=by
        cases sp with
        | none=>rfl
        | some q =>
         have h0:0<l.length:=Nat.lt_of_le_of_lt (Nat.zero_le _) hi'
         have hz:=(World.cells?_some (hl2 0 h0).1).2.2 0 hp
         rw[List.getElem?_eq_getElem (by rw[(World.cells?_some (hl2 0 h0).1).2.1];exact hp)] at hz
         simp only[Addr.add,World.cell?,Nat.zero_mul,if_true,Option.isSome_some] at hz
         split at hz<;>cases hz
       subst hsp
       have c5:W.cell? ⟨bk,off+i,none⟩=some (l.map (·.2)).flatten[i]:=by
        rw[←c4,OM,OM,show off+i / sz*sz+i % sz=off+i by omega]
       refine⟨bk,off,rfl,?_,OwnS.nil bk _,c5⟩
       unfold World.cell? at c5
       dsimp only at c5
       by_cases hb:bk<W.heap.size
       · exact hb
       · rw[Array.getElem?_eq_none q_o] at c5;cases c5)
      (fun i h1 h2=>hrl.2 i h1 h2) trivial
     rw[List.length_map,List.length_map,hl] at key
     exact key
   · obtain⟨p,hp',rfl⟩:=List.mem_map.1 hb
     obtain⟨i,hi,rfl⟩:=List.getElem_of_mem hp'
     exact(hl2 i hi).2.2
theorem AR{α : Type}{e:TypeId}{sz:Nat}{f:α→List D}{ok:α→Prop}(ht:P.underlying t=some (.slice e))(hsz:P.cellsOf e=sz)(hp:0<sz)(h:BZ P e f ok)(hlen:∀a,(f a).length=sz)(hleaf:∀a,∀d∈f a,d.leaf=true) :
 BZ P t (fun l:List α=>[.sl .shared (l.map f)]) fun l=>(∀a∈l,ok a)∧l.length≤maxLen :=
 fun m H enc W fuel cs x hn hx=>IB ht hsz hp (h m) hlen hleaf H enc W fuel cs x q_o hx
theorem RepL.glue{O:Nat→Nat→Prop}{cs:List Value}{o k:Nat}{L R:List D}(h1:RepL O W ((cs.drop o).take k) L)(h2:RepL O W (cs.drop (o+k)) R):RepL O W (cs.drop o) (L++R):=by
 have:=h1.append h2
 rwa[show cs.drop (o+k)=(cs.drop o).drop k by rw[List.drop_drop],List.take_append_drop] at this
theorem RepL.glue_end{O:Nat→Nat→Prop}{cs:List Value}{o:Nat}(h:cs.length=o):RepL O W (cs.drop o) []:=by
 rw[List.drop_eq_nil_of_le q_o];exact .nil
theorem Aa{fs:Array Field}{H:Type}{enc:TypeId×Value→H}{m:Nat}{cs:List Value}{xs:List (DataW H×List MemPlace)}{α:Type}{f:α→List D}{ok:α→Prop}{i:Nat}{g:Field}{k:Nat}
 (hx:∀(i:Nat) (f:Field),fs[i]?=some f→DataW.trod enc P W 0 (fun _=>true) true m f.type ((cs.drop f.offset).take (P.cellsOf f.type))=xs[i]?)(hl:xs.length=fs.size)(hg:fs[i]?=some g)(hk:P.cellsOf g.type=k)(h:Km n P g.type f ok)(hm:m≤n) :
 ∃a,RepL (OwnS []) W ((cs.drop g.offset).take k) (f a)∧ok a:=by
 have h1:=hx i g hg
 have hi:i<xs.length:=by rw[hl];exact(Array.getElem?_eq_some_iff.1 hg).1
 rw[List.getElem?_eq_getElem hi] at h1
 obtain⟨a,h2,h3⟩:=h _ _ _ _ _ _ hm h1
 rw[hk] at h2
 exact⟨a,h2,h3⟩
section
variable {H:Type} {enc:TypeId×Value→H} {r:Reach} {b0:Nat} {v:Value} {d:DataW H} {ps:List MemPlace} {α:Type} {f:α→List D} {ok:α→Prop}
theorem UZ{O:Nat→Nat→Prop}{u:Value}{c:D}(h:RepL O W [u] [c]):Rep O W u c:=h.2 0 (by simp) (by simp)
theorem Ir{e:TypeId}{g:α→D}(ht:P.underlying t=some (.slice e))(hv:Value.okWide P W r b0 t v)(h:DataW.Trod enc P W 0 (fun _=>true) true t v d ps)(hr:BZ P t (fun a=>[g a]) ok):∃a,Rep (OwnS []) W v (g a)∧ok a:=by
 obtain⟨a,len,cap,rfl⟩:=okWide_slice ht hv
 obtain⟨fuel,hf⟩:=h
 obtain⟨b,h1,h2⟩:=hr fuel _ _ _ _ _ _ (Nat.le_refl _) hf
 exact⟨b,UZ h1,h2⟩
theorem Gq(hl:laidOutB P=true){W':World}(hb:Below W.heap.size W W'):∀{ts:List TypeId} {vs:List Value} {ds:List (DataW H)} {p:List MemPlace},(∀t∈ts,P.readableRec t=true∧t<P.types.size)→DataW.TrodAll enc P W 0 (fun _=>true) true ts vs ds p →
 ∃q,DataW.TrodAll enc P W' 0 (fun b=>decide (b<W.heap.size)) true ts vs ds q
|[],[],[],_,_,_=>⟨[],rfl⟩
|t::ts,v::vs,d::ds,p,ht,h=>by
  obtain⟨p1,p2,h1,h2,rfl⟩:=h
  obtain⟨q,hq⟩:=Gq hl hb (fun t h=>ht t (by simp[h])) h2
  have hlt:∀x∈p1,x.block<W.heap.size:=by obtain⟨m,hm⟩:=h1;exact DataW.trod_lt m _ _ _ hm
  exact⟨_,_,q,Below.trod hl (ht t (by simp)).1 (ht t (by simp)).2 h1 hb hlt,hq,rfl⟩
|[],[],_::_,_,_,h=>by cases h
|[],_::_,_,_,_,h=>by cases h
|_::_,[],_,_,_,h=>by cases h
|_::_,_::_,[],_,_,h=>by cases h
end
end
end
end Go.Proofs.YtoeidpmjifjplaaGreat
