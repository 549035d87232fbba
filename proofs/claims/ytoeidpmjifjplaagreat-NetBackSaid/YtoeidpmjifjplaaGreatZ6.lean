/- Texts put together. No statement is proved here. -/
import Derived.MapKept
import Derived.LaidEql
import Derived.Test.YtoeidpmjifjplaaGreatShelf
import Derived.Deep.QuietTactic
import Derived.BigQuiet
import Derived.Test.YtoeidpmjifjplaaGreatZ5
set_option linter.all false
set_option maxRecDepth 10000
set_option maxHeartbeats 8000000
namespace Go.Proofs.YtoeidpmjifjplaaGreat
open Go.RowKit
section
def Dw:Nat→List Int→List MapEntry
|_,[]=>[]
|i,n::l=>⟨.int .i64 n,.bool true,i⟩::Dw (i+1) l
def FU (l:List Int):Obj:=.map (Dw 0 l).toArray l.length
def BW (r:Nat)(l:List Int):Res:=.raw r (FU l)
abbrev D.mp (r:Nat):D:=.s (.map (some r))
def MC (l:List Int)(n:Int):List Int:=if n∈l then l else l++[n]
theorem OK(l m:List Int):∀i,Dw i (l++m)=Dw i l++Dw (i+l.length) m:=by
 induction l with
|nil=>intro i;rfl
|cons n l ih=>intro i;simp only[List.cons_append,Dw,ih,List.length_cons];rw[show i+1+l.length=i+(l.length+1) by omega]
theorem Ww(l:List Int):∀i,(Dw i l).length=l.length:=by
 induction l with
|nil=>intro i;rfl
|cons n l ih=>intro i;simp only[Dw,List.length_cons,ih]
theorem EL(n:Int):∀(l:List Int) (i j:Nat),(n∈l→∃k,k<l.length∧Instr.findNow (.int .i64) (.int .i64 n) (Dw i l) j=some (some (j+k,.bool true))∧(Dw i l)[k]?=some ⟨.int .i64 n,.bool true,i+k⟩)∧(n∉l→Instr.findNow (.int .i64) (.int .i64 n) (Dw i l) j=some none)
|[],i,j=>⟨fun h=>(by cases h),fun _=>rfl⟩
|m::l,i,j=>by
  have hs:Instr.sameNow (.int .i64) (.int .i64 n) (.int .i64 m)=some (n == m):=by simp[Instr.sameNow]
  have ih:=EL n l (i+1) (j+1)
  by_cases h:n=m
  · subst h
    refine⟨fun _=>⟨0,by simp,?_,rfl⟩,fun hn=>absurd (List.mem_cons_self ..) hn⟩
    simp[Dw,Instr.findNow,hs]
  · have hf:(n == m)=false:=beq_eq_false_iff_ne.2 h
    refine⟨fun hm=>?_,fun hm=>?_⟩
    · obtain⟨k,k1,k2,k3⟩:=ih.1 ((List.mem_cons.1 hm).resolve_left h)
      refine⟨k+1,by simpa using k1,?_,?_⟩
      · simp only[Dw,Instr.findNow,hs,hf,k2]
        rw[show j+1+k=j+(k+1) by omega]
      · simp only[Dw,List.getElem?_cons_succ,k3]
        rw[show i+1+k=i+(k+1) by omega]
    · simp only[Dw,Instr.findNow,hs,hf]
      exact ih.2 fun hk=>hm (List.mem_cons_of_mem _ hk)
section
variable {P:Program} {r:Option Nat} {o:Oper} {e:Nat→D} {st:St} {K:D→St→Prop} {t kt et:TypeId} {b:Nat} {n:Int} {l:List Int}
theorem Fb(hk:P.underlying kt=some (.int .i64))(em:Bool)(w:World):(Instr.checkKey em 10000 kt (.int .i64 n)).run P w=.ok () w:=Go.MapKept.run_checkKey (k:=.int .i64 n) hk (by simp[Go.MapKept.IsKey]) em 9999
theorem Ga(hk:P.underlying kt=some (.int .i64))(w:World){x:Option (Nat×Value)}(h:Instr.findNow (.int .i64) (.int .i64 n) (Dw 0 l) 0=some x):(Instr.findKey kt (.int .i64 n) (Dw 0 l)).run P w=.ok x w:=Go.MapKept.run_findKey hk h
theorem NO(ho:o.op=.makeMap t none)(h:∀b,K (.mp b) (BW b []::st)):OpC P r o e st K:=by
 refine AU (by rw[ho];intro c hc;cases hc) fun ρ w hr hh=>.inl ?_
 obtain⟨k1,k2⟩:=Dt hh (.raw w.heap.size (.map #[] 0)) (fun b e=>by cases e;rfl) (.map #[] 0) fun he=>heap_alloc_new w _
 unfold execOp
 rw[ho]
 exact⟨.map (some w.heap.size),_,rfl,.mp w.heap.size,_,.s _ rfl,k1,k2,h _⟩
theorem Pn{x y:Operand}(ho:o.op=.lookup t x y false)(hx:ev e x=some (.mp b))(hy:ev e y=some (.i n))(hm:BW b l∈st)(hu:P.underlying t=some (.map kt et))(hk:P.underlying kt=some (.int .i64))(hz:(P.info? et).bind (·.zero)=some (.bool false))(h:K (.b (decide (n∈l))) st):OpC P r o e st K:=by
 refine AU (by rw[ho];intro c hc;cases hc) fun ρ w hr hh=>.inl ?_
 have hp:=hr _ (by simp[ho,Op.operands]) _ hx
 have hv:=hr _ (by simp[ho,Op.operands]) _ hy
 have hb:w.heap[b]?=some (FU l):=hh.2 _ hm
 unfold execOp
 rw[ho]
 simp only
 generalize ρ x=p at hp
 generalize ρ y=v at hv
 cases hp
 cases hv
 have hz2:(zeroValue et).run P w=.ok (.bool false) w:=by
  cases hi:P.info? et with
  | none=>rw[hi] at hz;cases hz
  | some i =>
   rw[hi] at hz
   simp only[Option.bind_some] at hz
   simp[zeroValue,typeInfo,hi,hz]
 have hget:(getObj b).run P w=.ok (FU l) w:=Go.MapKept.run_getObj_map hb
 by_cases hn:n∈l
 · obtain⟨k,k1,k2,k3⟩:=(EL n l 0 0).1 hn
   refine⟨.bool true,w,?_,.b (decide (n∈l)),st,?_,hh,Ext.refl _ _,h⟩
   · simp[Instr.lookup,run_underlying hu,hget,FU,Fb hk,Ga hk w k2]
   · rw[decide_eq_true hn];exact .s _ rfl
 · have k2:=(EL n l 0 0).2 hn
   refine⟨.bool false,w,?_,.b (decide (n∈l)),st,?_,hh,Ext.refl _ _,h⟩
   · simp[Instr.lookup,run_underlying hu,hget,FU,Fb hk,Ga hk w k2,hz2]
   · rw[decide_eq_false hn];exact .s _ rfl
theorem Kt{x y z:Operand}{s1:St}(ho:o.op=.mapUpdate t x y z)(hx:ev e x=some (.mp b))(hy:ev e y=some (.i n))(hz:ev e z=some (.b true))(hm:ResAt (BW b l) (BW b (MC l n)) st s1)(hu:P.underlying t=some (.map kt et))(hk:P.underlying kt=some (.int .i64))(h:K D.un s1):OpC P r o e st K:=by
 refine AU (by rw[ho];intro c hc;cases hc) fun ρ w hr hh=>.inr ?_
 have hp:=hr _ (by simp[ho,Op.operands]) _ hx
 have hv:=hr _ (by simp[ho,Op.operands]) _ hy
 have hzv:=hr _ (by simp[ho,Op.operands]) _ hz
 obtain⟨s0,p1,p2⟩:=hm.perm
 have hh':=hh.perm p1
 have hb:w.heap[b]?=some (FU l):=hh'.2 _ (List.mem_cons_self ..)
 unfold execOp
 rw[ho]
 simp only
 generalize ρ x=p at hp
 generalize ρ y=v at hv
 generalize ρ z=u at hzv
 cases hp
 cases hv
 cases hzv
 have hget:(getObj b).run P w=.ok (FU l) w:=Go.MapKept.run_getObj_map hb
 have hset:∀o,(setObj b o).run P w=.ok () (w.putObj b o):=fun o=>Go.MapKept.run_setObj_map o hb
 obtain⟨q1,q2⟩:=IU (o':=FU (MC l n)) hh' (fun c E fr h=>by cases h)
 refine⟨_,?_,D.un,s1,.s undef rfl,q1.perm p2.symm,q2.perm p1 p2,h⟩
 by_cases hn:n∈l
 · obtain⟨k,k1,k2,k3⟩:=(EL n l 0 0).1 hn
   have hmod:(Dw 0 l).toArray.modify k (fun e=>{e with key:=.int .i64 n,val:=.bool true})=(Dw 0 l).toArray:=by
    apply Array.ext_getElem?
    intro j
    rw[Array.getElem?_modify]
    split
    · rename_i hj;subst hj
      simp[k3]
    · rfl
   have hl2:k<(Dw 0 l).length:=by rw[Ww];exact k1
   have hkk:(((Dw 0 l).toArray[k]?).map (·.key)).getD (.int .i64 n)=.int .i64 n:=by simp[k3]
   simp only[Instr.mapUpdate,Sem.run_bind,run_underlying hu,Result.andThen_ok,hget,FU,Fb hk,Ga hk w k2,hset,MC,if_pos hn]
   have hmod2:(Dw 0 l).modify k (fun e=>{e with key:=.int .i64 n,val:=.bool true})=Dw 0 l:=by simpa using hmod
   simp[k3,Instr.keyThatStays,Instr.sameBits,hmod2,hset]
 · have k2:=(EL n l 0 0).2 hn
   simp only[Instr.mapUpdate,Sem.run_bind,run_underlying hu,Result.andThen_ok,hget,FU,Fb hk,Ga hk w k2,MC,if_neg hn]
   simp[hset,OK,Dw,FU]
end
def Th (P:Program)(t:TypeId):Bool :=
 match P.underlying t with
|some (.map kt et)=>(match P.underlying kt with|some (.int .i64)=>true|_=>false) && (match (P.info? et).bind (·.zero) with|some (.bool false)=>true|_=>false)
|_=>false
theorem Ll{P:Program}{t:TypeId}(h:Th P t=true):∃kt et,P.underlying t=some (.map kt et)∧P.underlying kt=some (.int .i64)∧(P.info? et).bind (·.zero)=some (.bool false):=by
 unfold Th at h
 split at h
 · rename_i kt et hu
   rw[Bool.and_eq_true] at h
   obtain⟨h1,h2⟩:=h
   refine⟨kt,et,hu,?_,?_⟩
   · split at h1
     · assumption
     · cases h1
   · split at h2
     · assumption
     · cases h2
 · cases h
section
variable {P:Program} {r:Option Nat} {m:Option Ro} {A:AA} {st:St} {k:D→St→Prop} {dst:Option Tmp} {ty:TypeId} {pos:String} {aft:Array Edge} {gd:Option (Nat×Bool)} {t:TypeId} {b:Nat} {n:Int} {l:List Int}
def MkM (m:Option Ro)(st:St)(k:D→St→Prop):Prop:=∀b,AE m (BW b []::st)∧k (.mp b) (BW b []::st)
theorem Zg(h:∀b,AE m (BW b []::st)∧k (.mp b) (BW b []::st)):MkM m st k:=h
theorem Sn(h:MkM m st k):S P r m ⟨dst,.makeMap t none,ty,pos,aft,gd⟩ A st k :=
 Bk (R:=fun d s=>∃b,d=.mp b∧s=BW b []::st) rfl (NO rfl fun b=>⟨b,rfl,rfl⟩) ⟨_,_,0,rfl,rfl⟩ fun d s ⟨b,e1,e2⟩=>by subst e1 e2;exact h b
def LkM (P:Program)(m:Option Ro)(t:TypeId)(d d':D)(st:St)(k:D→St→Prop):Prop :=
 ∃b n l,d=.mp b∧d'=.i n∧BW b l∈st∧Th P t=true∧AE m st∧k (.b (decide (n∈l))) st
theorem UK{x y:Operand}(h:Ev (ev A.e x) fun d=>Ev (ev A.e y) fun d'=>LkM P m t d d' st k):S P r m ⟨dst,.lookup t x y false,ty,pos,aft,gd⟩ A st k:=by
 obtain⟨d,h1,d',h2,b,n,l,rfl,rfl,hm,ht,h3⟩:=h
 obtain⟨kt,et,t1,t2,t3⟩:=Ll ht
 exact Bk (R:=fun d s=>d=.b (decide (n∈l))∧s=st) rfl (Pn rfl h1 h2 hm t1 t2 t3 ⟨rfl,rfl⟩) ⟨_,_,rfl,rfl⟩ fun d s ⟨e1,e2⟩=>by subst e1 e2;exact h3
def UpM (P:Program)(m:Option Ro)(t:TypeId)(d d' d'':D)(st:St)(k:D→St→Prop):Prop :=
 ∃b n l s1,d=.mp b∧d'=.i n∧d''=.b true∧ResAt (BW b l) (BW b (MC l n)) st s1∧Th P t=true∧AE m s1∧k D.un s1
theorem Nn{x y z:Operand}(h:Ev (ev A.e x) fun d=>Ev (ev A.e y) fun d'=>Ev (ev A.e z) fun d''=>UpM P m t d d' d'' st k):S P r m ⟨dst,.mapUpdate t x y z,ty,pos,aft,gd⟩ A st k:=by
 obtain⟨d,h1,d',h2,d'',h4,b,n,l,s1,rfl,rfl,rfl,hm,ht,h3⟩:=h
 obtain⟨kt,et,t1,t2,t3⟩:=Ll ht
 exact Bk (R:=fun d s=>d=D.un∧s=s1) rfl (Kt rfl h1 h2 h4 hm t1 t2 ⟨rfl,rfl⟩) ⟨_,_,rfl,rfl⟩ fun d s ⟨e1,e2⟩=>by subst e1 e2;exact h3
instance Aq:Go1 (S P r m ⟨dst,.makeMap t none,ty,pos,aft,gd⟩ A st k) (MkM m st k):=⟨Sn⟩
instance Av {x y:Operand}:Go1 (S P r m ⟨dst,.lookup t x y false,ty,pos,aft,gd⟩ A st k) (Ev (ev A.e x) fun d=>Ev (ev A.e y) fun d'=>LkM P m t d d' st k):=⟨UK⟩
instance Am {x y z:Operand}:Go1 (S P r m ⟨dst,.mapUpdate t x y z,ty,pos,aft,gd⟩ A st k) (Ev (ev A.e x) fun d=>Ev (ev A.e y) fun d'=>Ev (ev A.e z) fun d''=>UpM P m t d d' d'' st k):=⟨Nn⟩
end
class MpI (b:Nat)(st:St)(l:outParam (List Int))(s1:outParam (List Int→St)):Prop where
 mem:BW b l∈st
 go:∀l',ResAt (BW b l) (BW b l') st (s1 l')
instance dB {b:Nat}{l:List Int}{st:St}:MpI b (BW b l::st) l (fun l'=>BW b l'::st):=⟨List.Mem.head _,fun _=>ResAt.here⟩
instance (priority:=low) mp_there {b:Nat}{l:List Int}{x:Res}{st:St}{s1:List Int→St}[h:MpI b st l s1]:MpI b (x::st) l (fun l'=>x::s1 l'):=⟨List.Mem.tail _ h.mem,fun l'=>ResAt.there (h.go l')⟩
section
variable {P:Program} {m:Option Ro} {st:St} {k:D→St→Prop} {t:TypeId} {b:Nat} {n:Int} {l:List Int} {s1:List Int→St}
instance fy [h:MpI b st l s1]:Go5 (LkM P m t (.s (.map (some b))) (.s (.int .i64 n)) st k) (Th P t=true) (AE m st∧k (.b (decide (n∈l))) st):=⟨fun ht hk=>⟨b,n,l,rfl,rfl,h.mem,ht,hk⟩⟩
instance fx [h:MpI b st l s1]:Go5 (UpM P m t (.s (.map (some b))) (.s (.int .i64 n)) (.s (.bool true)) st k) (Th P t=true) (AE m (s1 (MC l n))∧k D.un (s1 (MC l n))):=⟨fun ht hk=>⟨b,n,l,_,rfl,rfl,rfl,h.go _,ht,hk⟩⟩
end
end
section
inductive MK where
|i (n:Int)
|p (b:Nat)
 deriving DecidableEq
def MK.v:MK→Value
|.i n=>.int .i64 n
|.p b=>.pointer (some ⟨b,0,none⟩)
def MK.d:MK→D
|.i n=>.i n
|.p b=>.ptr b 0
structure KE where
 k:MK
 x:Int
 born:Nat
def KE.ent (e:KE):MapEntry:=⟨e.k.v,.int .i64 e.x,e.born⟩
def CQ (l:List KE)(c:Nat):Obj:=.map (l.map KE.ent).toArray c
abbrev Dm (r:Nat)(l:List KE)(c:Nat):Res:=.raw r (CQ l c)
def FN (k:MK):List KE→Nat→Option (Nat×Value)
|[],_=>none
|e::l,j=>if k=e.k then some (j,.int .i64 e.x) else FN k l (j+1)
def BM (l:List KE)(k:MK):Option Int:=(l.find? fun e=>decide (k=e.k)).map KE.x
def BF (l:List KE)(c:Nat)(k:MK)(x:Int):List KE×Nat:=match l.findIdx? (fun e=>decide (k=e.k)) with
|some j=>(l.modify j fun e=>⟨k,x,e.born⟩,c)
|none=>(l++[⟨k,x,c⟩],c+1)
def DT (l:List KE)(k:MK):List KE:=match l.findIdx? (fun e=>decide (k=e.k)) with
|some j=>l.eraseIdx j
|none=>l
theorem Il(k:MK):∀(l:List KE) (j:Nat),FN k l j=(l.findIdx? fun e=>decide (k=e.k)).bind fun i=>(l[i]?).map fun e=>(j+i,Value.int .i64 e.x)
|[],_=>rfl
|e::l,j=>by
  rw[FN,List.findIdx?_cons]
  by_cases h:k=e.k
  · rw[if_pos h,decide_eq_true h];rfl
  · rw[if_neg h,decide_eq_false h,Il k l (j+1)]
    cases l.findIdx? fun e=>decide (k=e.k) with
    | none=>rfl
    | some i =>
     simp only[Option.map_some,Option.bind_some,List.getElem?_cons_succ,Bool.false_eq_true,if_false]
     rw[show j+1+i=j+(i+1) by omega]
theorem JH(k:MK):∀(l:List KE) (j:Nat),(FN k l j).map Prod.snd=(BM l k).map (Value.int .i64)
|[],_=>rfl
|e::l,j=>by
  unfold BM
  rw[FN,List.find?_cons]
  by_cases h:k=e.k
  · rw[if_pos h,decide_eq_true h];rfl
  · rw[if_neg h,decide_eq_false h];exact JH k l (j+1)
section
variable {P:Program} {r:Option Nat} {o:Oper} {e:Nat→D} {st:St} {K:D→St→Prop} {t kt et:TypeId} {b c:Nat} {key:MK} {l:List KE} {w:World}
def YZ (P:Program)(kt:TypeId)(w:World)(key:MK)(l:List KE):Prop :=
 (P.underlying kt=some (.int .i64)∧(∃n,key=.i n)∧∀e∈l,∃n,e.k=.i n) ∨
 (∃el j,P.underlying kt=some (.pointer el)∧P.info? el=some j∧j.size≠0∧(∃b us ty,key=.p b∧w.heap[b]?=some (.cells us ty (0,0)))∧∀e∈l,∃b us ty,e.k=.p b∧w.heap[b]?=some (.cells us ty (0,0)))
def KeyS (P:Program)(kt:TypeId)(st:St)(key:MK)(l:List KE):Prop :=
 (P.underlying kt=some (.int .i64)∧(∃n,key=.i n)∧∀e∈l,∃n,e.k=.i n) ∨
 (∃el j,P.underlying kt=some (.pointer el)∧P.info? el=some j∧j.size≠0∧(∃b ty cs,key=.p b∧Res.box b ty cs∈st)∧∀e∈l,∃b ty cs,e.k=.p b∧Res.box b ty cs∈st)
theorem KeyS.wld(h:KeyS P kt st key l)(hh:Holds st w):YZ P kt w key l:=by
 have hb:∀b ty cs,Res.box b ty cs∈st→∃us ty,w.heap[b]?=some (.cells us ty (0,0)):=fun b ty cs hm=>by
  obtain⟨⟨us,h1, -⟩, -⟩:=hh.2 _ hm
  exact⟨us,ty,h1⟩
 rcases h with h|⟨el,j,h1,h2,h3,⟨b,ty,cs,h4,h5⟩,h6⟩
 · exact .inl h
 · refine .inr ⟨el,j,h1,h2,h3,?_,fun e he=>?_⟩
   · obtain⟨us,ty,h⟩:=hb _ _ _ h5
     exact⟨b,us,ty,h4,h⟩
   · obtain⟨b,ty,cs,k1,k2⟩:=h6 e he
     obtain⟨us,ty,h⟩:=hb _ _ _ k2
     exact⟨b,us,ty,k1,h⟩
theorem Oy(n:Int):∀(l:List KE) (j:Nat),(∀e∈l,∃n,e.k=.i n)→Instr.findNow (.int .i64) (MK.i n).v (l.map KE.ent) j=some (FN (.i n) l j)
|[],_,_=>rfl
|e::l,j,h=>by
  obtain⟨m,hm⟩:=h e (List.mem_cons_self ..)
  have hs:Instr.sameNow (.int .i64) (.int .i64 n) (.int .i64 m)=some (n == m):=by simp[Instr.sameNow]
  have ih:=Oy n l (j+1) fun e he=>h e (List.mem_cons_of_mem _ he)
  rw[FN,hm,List.map_cons,Instr.findNow]
  show(match Instr.sameNow (.int .i64) (.int .i64 n) e.k.v with|some true=>_|some false=>_|none=>_)=_
  rw[hm]
  show(match Instr.sameNow (.int .i64) (.int .i64 n) (.int .i64 m) with|some true=>_|some false=>_|none=>_)=_
  rw[hs]
  by_cases hn:n=m
  · subst hn
    rw[if_pos rfl,show(n == n)=true from beq_self_eq_true n]
    rfl
  · rw[if_neg (fun h=>hn (MK.i.inj h)),beq_eq_false_iff_ne.2 hn]
    exact ih
theorem Xx{el:TypeId}{j:TypeInfo}{a c:Nat}{ua uc:Array Value}{ta tc:TypeId}(h1:P.underlying kt=some (.pointer el))(h2:P.info? el=some j)(h3:j.size≠0)(ha:w.heap[a]?=some (.cells ua ta (0,0)))(hc:w.heap[c]?=some (.cells uc tc (0,0))):(Op.equal kt (MK.p a).v (MK.p c).v).run P w=.ok (decide (a=c)) w:=by
 by_cases h:a=c
 · subst h
   have hd:∀d:Nat,(Op.equalIn (d+1) kt (.pointer (some ⟨a,0,none⟩)) (.pointer (some ⟨a,0,none⟩))).run P w=.ok true w:=fun d=>by
    simp[Op.equalIn,run_underlying h1,sizeOf,typeInfo,h2,run_sameAddr_same]
   rw[decide_eq_true rfl]
   exact hd 9999
 · have hne:(⟨a,0,none⟩:Addr)≠⟨c,0,none⟩:=fun e=>h (by cases e;rfl)
   have hd:∀d:Nat,(Op.equalIn (d+1) kt (.pointer (some ⟨a,0,none⟩)) (.pointer (some ⟨c,0,none⟩))).run P w=.ok false w:=fun d=>by
    simp[Op.equalIn,run_underlying h1,sizeOf,typeInfo,h2,h3,run_sameAddr_other w hne ha hc]
   rw[decide_eq_false h]
   exact hd 9999
theorem Oz{el:TypeId}{j:TypeInfo}{a:Nat}{ua:Array Value}{ta:TypeId}(h1:P.underlying kt=some (.pointer el))(h2:P.info? el=some j)(h3:j.size≠0)(ha:w.heap[a]?=some (.cells ua ta (0,0))):∀(l:List KE) (i:Nat),(∀e∈l,∃b us ty,e.k=.p b∧w.heap[b]?=some (.cells us ty (0,0)))→(Instr.findAsking kt (MK.p a).v (l.map KE.ent) i).run P w=.ok (FN (.p a) l i) w
|[],i,_=>rfl
|e::l,i,h=>by
  obtain⟨c,uc,tc,hm,hc⟩:=h e (List.mem_cons_self ..)
  have ih:=Oz h1 h2 h3 ha l (i+1) fun e he=>h e (List.mem_cons_of_mem _ he)
  have hq:=Xx h1 h2 h3 ha hc
  rw[List.map_cons,Instr.findAsking,FN,hm]
  have hk:e.ent.key=(MK.p c).v:=by rw[←hm];rfl
  simp only[Sem.run_bind,hk,hq,Result.andThen_ok]
  by_cases hn:a=c
  · subst hn
    simp only[decide_true,if_true,Sem.run_pure]
    rfl
  · rw[if_neg (fun h=>hn (MK.p.inj h))]
    simp only[hn,decide_false,Bool.false_eq_true,if_false]
    exact ih
theorem Dy(h:YZ P kt w key l):(Instr.findKey kt key.v (l.map KE.ent)).run P w=.ok (FN key l 0) w:=by
 rcases h with⟨h1,⟨n,rfl⟩,h3⟩|⟨el,j,h1,h2,h3,⟨b,us,ty,rfl,h4⟩,h5⟩
 · exact Go.MapKept.run_findKey h1 (Oy n l 0 h3)
 · cases l with
   | nil=>exact Go.MapKept.run_findKey h1 rfl
   | cons e l =>
    obtain⟨c,uc,tc,hm,hc⟩:=h5 e (List.mem_cons_self ..)
    have hn:Instr.findNow (.pointer el) (MK.p b).v ((e::l).map KE.ent) 0=none:=by
     have hs:Instr.sameNow (.pointer el) (MK.p b).v e.ent.key=none:=by
      show Instr.sameNow (.pointer el) (MK.p b).v e.k.v=none
      rw[hm];rfl
     rw[List.map_cons,Instr.findNow,hs]
    unfold Instr.findKey
    simp only[Sem.run_bind,run_underlying h1,Result.andThen_ok,hn]
    exact Oz h1 h2 h3 h4 (e::l) 0 h5
theorem CV(h:YZ P kt w key l)(em:Bool):(Instr.checkKey em 10000 kt key.v).run P w=.ok () w:=by
 rcases h with⟨h1,⟨n,rfl⟩,h3⟩|⟨el,j,h1,h2,h3,⟨b,us,ty,rfl,h4⟩,h5⟩
 · exact Go.MapKept.run_checkKey (k:=.int .i64 n) h1 (by simp[Go.MapKept.IsKey]) em 9999
 · have hd : ∀ n : Nat, (Instr.checkKey em (n + 1) kt (.pointer (some ⟨b, 0, none⟩))).run P w = .ok () w := fun n => by
    simp[Instr.checkKey,run_underlying h1]
   exact hd 9999
theorem Sk(k:MK):Instr.sameBits 10000 k.v k.v=true:=by
 have hd:∀n:Nat,Instr.sameBits (n+1) k.v k.v=true:=fun n=>by cases k<;>simp[MK.v,Instr.sameBits]
 exact hd 9999
theorem Et(f:KE→MapEntry):∀(l:List KE) (i:Nat),(l.map f).eraseIdx i=(l.eraseIdx i).map f
|[],_=>rfl
|_::_,0=>rfl
|e::l,i+1=>by rw[List.map_cons,List.eraseIdx_cons_succ,List.eraseIdx_cons_succ,List.map_cons,Et f l i]
theorem Mw(ho:o.op=.makeMap t none)(h:∀b,K (.mp b) (Dm b [] 0::st)):OpC P r o e st K:=by
 refine AU (by rw[ho];intro c hc;cases hc) fun ρ w hr hh=>.inl ?_
 obtain⟨k1,k2⟩:=Dt hh (.raw w.heap.size (.map #[] 0)) (fun b e=>by cases e;rfl) (.map #[] 0) fun he=>heap_alloc_new w _
 unfold execOp
 rw[ho]
 exact⟨.map (some w.heap.size),_,rfl,.mp w.heap.size,_,.s _ rfl,k1,k2,h _⟩
theorem Ms{O:Nat→Nat→Prop}{v:Value}{k:MK}(h:Rep O w v k.d):v=k.v:=by
 cases k<;>(cases h;rfl)
theorem Jt{O:Nat→Nat→Prop}(x:Int)(q:Bool):Rep O w (.tuple #[.int .i64 x,.bool q]) (.tup [.i x,.b q]):=by
 have h:RepL O w [.int .i64 x,.bool q] [.i x,.b q]:=RepL.cons (.s _ rfl) (RepL.cons (.s _ rfl) .nil)
 exact .tup _ _ h.1 h.2
def lkD (l:List KE)(k:MK):D:=match BM l k with
|some x=>.tup [.i x,.b true]
|none=>.tup [.i 0,.b false]
theorem NP{x y:Operand}(ho:o.op=.lookup t x y true)(hx:ev e x=some (.mp b))(hy:ev e y=some key.d)(hm:Dm b l c∈st)(hu:P.underlying t=some (.map kt et))(hk:KeyS P kt st key l)(hz:(P.info? et).bind (·.zero)=some (.int .i64 0))(h:K (lkD l key) st):OpC P r o e st K:=by
 refine AU (by rw[ho];intro c hc;cases hc) fun ρ w hr hh=>.inl ?_
 have hp:=hr _ (by simp[ho,Op.operands]) _ hx
 have hv:=Ms (hr _ (by simp[ho,Op.operands]) _ hy)
 have hb:w.heap[b]?=some (CQ l c):=hh.2 _ hm
 have hk:=hk.wld hh
 unfold execOp
 rw[ho]
 simp only
 rw[hv]
 generalize ρ x=p at hp
 cases hp
 have hz2:(zeroValue et).run P w=.ok (.int .i64 0) w:=by
  cases hi:P.info? et with
  | none=>rw[hi] at hz;cases hz
  | some i =>
   rw[hi] at hz
   simp only[Option.bind_some] at hz
   simp[zeroValue,typeInfo,hi,hz]
 have hget:(getObj b).run P w=.ok (CQ l c) w:=Go.MapKept.run_getObj_map hb
 have hf:=JH key l 0
 cases hq:FN key l 0 with
|none =>
  rw[hq] at hf
  have hl:BM l key=none:=by cases hl:BM l key with
   | none=>rfl
   | some x=>rw[hl] at hf;cases hf
  refine⟨.tuple #[.int .i64 0,.bool false],w,?_,lkD l key,st,?_,hh,Ext.refl _ _,h⟩
  · simp[Instr.lookup,run_underlying hu,hget,CQ,CV hk,Dy hk,hq,hz2]
  · unfold lkD
    rw[hl]
    exact Jt _ _
|some q =>
  obtain⟨i,v⟩:=q
  rw[hq] at hf
  obtain⟨x,hl,rfl⟩:∃x,BM l key=some x∧v=.int .i64 x:=by cases hl:BM l key with
   | none=>rw[hl] at hf;cases hf
   | some x=>rw[hl] at hf;cases hf;exact⟨x,rfl,rfl⟩
  refine⟨.tuple #[.int .i64 x,.bool true],w,?_,lkD l key,st,?_,hh,Ext.refl _ _,h⟩
  · simp[Instr.lookup,run_underlying hu,hget,CQ,CV hk,Dy hk,hq]
  · unfold lkD
    rw[hl]
    exact Jt _ _
theorem JC{x y z:Operand}{s1:St}{n:Int}(ho:o.op=.mapUpdate t x y z)(hx:ev e x=some (.mp b))(hy:ev e y=some key.d)(hz:ev e z=some (.i n))(hm:ResAt (Dm b l c) (Dm b (BF l c key n).1 (BF l c key n).2) st s1)(hu:P.underlying t=some (.map kt et))(hk:KeyS P kt st key l)(h:K D.un s1):OpC P r o e st K:=by
 refine AU (by rw[ho];intro c hc;cases hc) fun ρ w hr hh=>.inr ?_
 have hp:=hr _ (by simp[ho,Op.operands]) _ hx
 have hv:=Ms (hr _ (by simp[ho,Op.operands]) _ hy)
 have hzv:=hr _ (by simp[ho,Op.operands]) _ hz
 have hk:=hk.wld hh
 obtain⟨s0,p1,p2⟩:=hm.perm
 have hh':=hh.perm p1
 have hb:w.heap[b]?=some (CQ l c):=hh'.2 _ (List.mem_cons_self ..)
 unfold execOp
 rw[ho]
 simp only
 rw[hv]
 generalize ρ x=p at hp
 generalize ρ z=u at hzv
 cases hp
 cases hzv
 have hget:(getObj b).run P w=.ok (CQ l c) w:=Go.MapKept.run_getObj_map hb
 have hset:∀o,(setObj b o).run P w=.ok () (w.putObj b o):=fun o=>Go.MapKept.run_setObj_map o hb
 obtain⟨q1,q2⟩:=IU (o':=CQ (BF l c key n).1 (BF l c key n).2) hh' (fun c E fr h=>by cases h)
 refine⟨_,?_,D.un,s1,.s undef rfl,q1.perm p2.symm,q2.perm p1 p2,h⟩
 have hf:=Il key l 0
 simp only[Instr.mapUpdate,Sem.run_bind,run_underlying hu,Result.andThen_ok,hget,CQ,CV hk,Dy hk]
 cases hi:l.findIdx? (fun e=>decide (key=e.k)) with
|none =>
  rw[hi,Option.bind_none] at hf
  have hkp:BF l c key n=(l++[⟨key,n,c⟩],c+1):=by unfold BF;rw[hi]
  rw[hf,hkp]
  simp[hset,CQ,KE.ent]
|some i =>
  have hlt:i<l.length:=by
   obtain⟨h1, -⟩:=List.findIdx?_eq_some_iff_getElem.1 hi
   exact h1
  have hsome:l[i]?=some l[i]:=List.getElem?_eq_getElem hlt
  have hek:key=l[i].k:=by
   obtain⟨h1,h2, -⟩:=List.findIdx?_eq_some_iff_getElem.1 hi
   exact of_decide_eq_true h2
  rw[hi,Option.bind_some,hsome,Option.map_some,Nat.zero_add] at hf
  have hkp:BF l c key n=(l.modify i fun e=>⟨key,n,e.born⟩,c):=by unfold BF;rw[hi]
  have hmod:(l.map KE.ent).modify i (fun e=>{e with key:=key.v,val:=.int .i64 n})=(l.modify i fun e=>⟨key,n,e.born⟩).map KE.ent:=by
   apply List.ext_getElem?
   intro j
   rw[List.getElem?_modify,List.getElem?_map,List.getElem?_map,List.getElem?_modify]
   by_cases hj:i=j
   · subst hj
     rw[hsome]
     simp[KE.ent]
   · simp[hj]
  have hke:l[i].ent.key=key.v:=by rw[hek];rfl
  rw[hf,hkp]
  simp[hsome,hke,Instr.keyThatStays,Sk,hset,hmod,CQ]
theorem Ns{argTypes:Array TypeId}{ty:TypeId}(hb:w.heap[b]?=some (CQ l c))(hat:argTypes[0]?=some t)(hu:P.underlying t=some (.map kt et))(hk:YZ P kt w key l):(Builtin.delete_ argTypes ty #[.map (some b),key.v]).run P w=.ok (.tuple #[]) (w.putObj b (CQ (DT l key) c)):=by
 have hget:(getObj b).run P w=.ok (CQ l c) w:=Go.MapKept.run_getObj_map hb
 have hset:∀o,(setObj b o).run P w=.ok () (w.putObj b o):=fun o=>Go.MapKept.run_setObj_map o hb
 have hf:=Il key l 0
 cases hi:l.findIdx? (fun e=>decide (key=e.k)) with
|none =>
  rw[hi,Option.bind_none] at hf
  have hkp:DT l key=l:=by unfold DT;rw[hi]
  rw[hkp]
  simp[Builtin.delete_,hat,run_underlying hu,hget,CQ,CV hk,Dy hk,hf,hset]
|some i =>
  have hlt:i<l.length:=by
   obtain⟨h1, -⟩:=List.findIdx?_eq_some_iff_getElem.1 hi
   exact h1
  have hsome:l[i]?=some l[i]:=List.getElem?_eq_getElem hlt
  rw[hi,Option.bind_some,hsome,Option.map_some,Nat.zero_add] at hf
  have hkp:DT l key=l.eraseIdx i:=by unfold DT;rw[hi]
  have her:(l.map KE.ent).toArray.eraseIdxIfInBounds i=((l.eraseIdx i).map KE.ent).toArray:=by
   apply Array.ext'
   rw[Array.toList_eraseIdxIfInBounds]
   exact Et _ _ _
  rw[hkp]
  simp[Builtin.delete_,hat,run_underlying hu,hget,CQ,CV hk,Dy hk,hf,hset,Et]
end
end
section
def kmT (P:Program)(t:TypeId):Option TypeId :=
 match P.underlying t with
|some (.map kt et)=>(match (P.info? et).bind (·.zero) with|some (.int .i64 0)=>some kt|_=>none)
|_=>none
theorem FM{P:Program}{t kt:TypeId}(h:kmT P t=some kt):∃et,P.underlying t=some (.map kt et)∧(P.info? et).bind (·.zero)=some (.int .i64 0):=by
 unfold kmT at h
 split at h
 · rename_i kt' et hu
   split at h
   · rename_i hz
     cases h
     exact⟨et,hu,hz⟩
   · cases h
 · cases h
def Yi (P:Program)(kt:TypeId):Option Bool :=
 match P.underlying kt with
|some (.int .i64)=>some false
|some (.pointer el)=>(P.info? el).bind fun j=>if j.size≠0 then some true else none
|_=>none
def WK (st:St)(b:Nat):Prop:=∃ty cs,Res.box b ty cs∈st
theorem Dg{P:Program}{kt:TypeId}{st:St}{n:Int}{l:List KE}(h:Yi P kt=some false)(hl:∀e∈l,∃n,e.k=.i n):KeyS P kt st (.i n) l:=by
 unfold Yi at h
 split at h
 · rename_i hu
   exact .inl ⟨hu,⟨n,rfl⟩,hl⟩
 · rename_i el hu
   cases hi:P.info? el with
   | none=>rw[hi] at h;cases h
   | some j=>rw[hi,Option.bind_some] at h;split at h<;>cases h
 · cases h
theorem FO{P:Program}{kt:TypeId}{st:St}{b:Nat}{l:List KE}(h:Yi P kt=some true)(hb:WK st b)(hl:∀e∈l,∃b,e.k=.p b∧WK st b):KeyS P kt st (.p b) l:=by
 unfold Yi at h
 split at h
 · cases h
 · rename_i el hu
   cases hi:P.info? el with
   | none=>rw[hi] at h;cases h
   | some j =>
    rw[hi,Option.bind_some] at h
    split at h
    · rename_i hs
      obtain⟨ty,cs,hm⟩:=hb
      exact .inr ⟨el,j,hu,hi,hs,⟨b,ty,cs,rfl,hm⟩,fun e he=>by
       obtain⟨b,h1,ty,cs,h2⟩:=hl e he
       exact⟨b,ty,cs,h1,h2⟩⟩
    · cases h
 · cases h
section
variable {P:Program} {r:Option Nat} {m:Option Ro} {A:AA} {st:St} {k:D→St→Prop} {dst:Option Tmp} {ty:TypeId} {pos:String} {aft:Array Edge} {gd:Option (Nat×Bool)} {t:TypeId} {b c:Nat} {l:List KE} {o:Oper} {e:Nat→D} {K:D→St→Prop}
theorem Po{x y:Operand}{s1:St}{key:MK}{kt et t2:TypeId}(ho:o.op=.call ⟨.builtin .delete,#[x,y],#[t,t2]⟩)(hx:ev e x=some (.mp b))(hy:ev e y=some key.d)(hm:ResAt (Dm b l c) (Dm b (DT l key) c) st s1)(hu:P.underlying t=some (.map kt et))(hk:KeyS P kt st key l)(h:K (.tup []) s1):OpC P r o e st K:=by
 refine AU (by rw[ho];intro c hc;cases hc) fun ρ w hr hh=>.inl ?_
 have hp:=hr _ (by simp[ho,Op.operands,Call.operands]) _ hx
 have hv:=Ms (hr _ (by simp[ho,Op.operands,Call.operands]) _ hy)
 have hk:=hk.wld hh
 obtain⟨s0,p1,p2⟩:=hm.perm
 have hh':=hh.perm p1
 have hb:w.heap[b]?=some (CQ l c):=hh'.2 _ (List.mem_cons_self ..)
 have hpx:ρ x=.map (some b):=by
  generalize ρ x=p at hp
  cases hp
  rfl
 obtain⟨q1,q2⟩:=IU (o':=CQ (DT l key) c) hh' (fun c E fr h=>by cases h)
 refine⟨.tuple #[],_,?_,.tup [],s1,.tup [] [] rfl (fun i h=>absurd h (Nat.not_lt_zero _)),q1.perm p2.symm,q2.perm p1 p2,h⟩
 unfold execOp
 rw[ho]
 simp only[resolve,invoke,builtin,Sem.run_bind,Sem.run_pure,Result.andThen_ok,List.map_toArray,List.map_cons,List.map_nil,hpx,hv]
 show((Builtin.delete_ #[t,t2] o.type #[.map (some b),key.v]).run P w).andThen _=_
 rw[Ns hb rfl hu hk]
 rfl
theorem Jl(h:∀b,AE m (Dm b [] 0::st)∧k (.mp b) (Dm b [] 0::st)):S P r m ⟨dst,.makeMap t none,ty,pos,aft,gd⟩ A st k :=
 Bk (R:=fun d s=>∃b,d=.mp b∧s=Dm b [] 0::st) rfl (Mw rfl fun b=>⟨b,rfl,rfl⟩) ⟨_,_,0,rfl,rfl⟩ fun d s ⟨b,e1,e2⟩=>by subst e1 e2;exact h b
theorem KS{x y:Operand}{key:MK}{kt:TypeId}(hx:ev A.e x=some (.mp b))(hy:ev A.e y=some key.d)(hm:Dm b l c∈st)(ht:kmT P t=some kt)(hk:KeyS P kt st key l)(h:AE m st∧k (lkD l key) st):S P r m ⟨dst,.lookup t x y true,ty,pos,aft,gd⟩ A st k:=by
 obtain⟨et,t1,t2⟩:=FM ht
 exact Bk (R:=fun d s=>d=lkD l key∧s=st) rfl (NP rfl hx hy hm t1 hk t2 ⟨rfl,rfl⟩) ⟨_,_,rfl,rfl⟩ fun d s ⟨e1,e2⟩=>by subst e1 e2;exact h
theorem Ha{x y z:Operand}{key:MK}{kt:TypeId}{n:Int}{s1:St}(hx:ev A.e x=some (.mp b))(hy:ev A.e y=some key.d)(hz:ev A.e z=some (.i n))(hm:ResAt (Dm b l c) (Dm b (BF l c key n).1 (BF l c key n).2) st s1)(ht:kmT P t=some kt)(hk:KeyS P kt st key l)(h:AE m s1∧k D.un s1):S P r m ⟨dst,.mapUpdate t x y z,ty,pos,aft,gd⟩ A st k:=by
 obtain⟨et,t1, -⟩:=FM ht
 exact Bk (R:=fun d s=>d=D.un∧s=s1) rfl (JC rfl hx hy hz hm t1 hk ⟨rfl,rfl⟩) ⟨_,_,rfl,rfl⟩ fun d s ⟨e1,e2⟩=>by subst e1 e2;exact h
theorem Nr{x y:Operand}{key:MK}{kt t2:TypeId}{s1:St}(hx:ev A.e x=some (.mp b))(hy:ev A.e y=some key.d)(hm:ResAt (Dm b l c) (Dm b (DT l key) c) st s1)(ht:kmT P t=some kt)(hk:KeyS P kt st key l)(h:AE m s1∧k (.tup []) s1):S P r m ⟨dst,.call ⟨.builtin .delete,#[x,y],#[t,t2]⟩,ty,pos,aft,gd⟩ A st k:=by
 obtain⟨et,t1, -⟩:=FM ht
 exact Bk (R:=fun d s=>d=.tup []∧s=s1) rfl (Po rfl hx hy hm t1 hk ⟨rfl,rfl⟩) ⟨_,_,rfl,rfl⟩ fun d s ⟨e1,e2⟩=>by subst e1 e2;exact h
end
section
variable {P:Program} {r:Option Nat} {A:AA} {st:St} {k:D→St→Prop} {dst:Option Tmp} {ty:TypeId} {pos:String} {aft:Array Edge} {gd:Option (Nat×Bool)} {t t' kt:TypeId} {x:Operand}
theorem No{mv:Option Nat}(ht:kmT P t=some kt)(hx:ev A.e x=some (.s (.map mv)))(hk:k (.b mv.isNone) st):S P r none ⟨dst,.binOp .eql t x (.const (.map none)) t',ty,pos,aft,gd⟩ A st k:=by
 refine AU (by intro c hc;cases hc) fun ρ w hr hh=>.inl ?_
 have hv1:=AX (hr _ (by simp[Op.operands]) _ hx)
 have hv2:=hr.cst (.map none)
 obtain⟨et,hu, -⟩:=FM ht
 refine⟨.bool mv.isNone,w,?_,_,_,.s (.bool mv.isNone) rfl,hh,Ext.refl _ _,hk⟩
 unfold execOp
 have hd:∀d:Nat,(Op.equalIn (d+1) t (.map mv) (.map none)).run P w=.ok mv.isNone w:=fun d=>by cases mv<;>simp[Op.equalIn,run_underlying hu]
 have hrun:(binOp .eql t (.map mv) (.map none)).run P w=.ok (.bool mv.isNone) w:=by
  simp only[binOp]
  simp[Op.equal,Op.maxDepth,hd 9999]
 simp only[hv1,hv2,Sem.run_bind,AP .eql t x (.const (.map none)) (.map mv) (.map none) (fun u=>by simp) (fun u v=>by simp),hrun,Result.andThen_ok,Sem.run_pure]
def Pj (P:Program)(t:TypeId):Bool:=match P.underlying t with
|some (.pointer el)=>el == P.pointee t
|_=>false
theorem La(h:Pj P t=true):P.underlying t=some (.pointer (P.pointee t)):=by
 unfold Pj at h
 split at h
 · rename_i el hu
   rw[hu,beq_iff_eq.1 h]
 · cases h
def XS:D→Option (Option Addr)
|.ptr b off=>some (some ⟨b,off,none⟩)
|.s (.pointer none)=>some none
|_=>none
theorem Ny{O:Nat→Nat→Prop}{w:World}{v:Value}{d:D}{a:Option Addr}(h:Rep O w v d)(ha:XS d=some a):v=.pointer a:=by
 unfold XS at ha
 split at ha
 · cases ha;cases h;rfl
 · cases ha;cases h;rfl
 · cases ha
theorem QD{d:D}{a:Option Addr}(ht:Pj P t=true)(hx:ev A.e x=some d)(ha:XS d=some a)(hk:k (.b a.isSome) st):S P r none ⟨dst,.binOp .neq t x (.const (.pointer none)) t',ty,pos,aft,gd⟩ A st k:=by
 refine AU (by intro c hc;cases hc) fun ρ w hr hh=>.inl ?_
 have hv1:=Ny (hr _ (by simp[Op.operands]) _ hx) ha
 have hv2:=hr.cst (.pointer none)
 have hu:=La ht
 refine⟨.bool a.isSome,w,?_,_,_,.s (.bool a.isSome) rfl,hh,Ext.refl _ _,hk⟩
 unfold execOp
 have hd:∀d:Nat,(Op.equalIn (d+1) t (.pointer a) (.pointer none)).run P w=.ok a.isNone w:=fun d=>by cases a<;>simp[Op.equalIn,run_underlying hu]
 have hrun:(binOp .neq t (.pointer a) (.pointer none)).run P w=.ok (.bool a.isSome) w:=by
  simp only[binOp]
  simp[Op.equal,Op.maxDepth,hd 9999]
 simp only[hv1,hv2,Sem.run_bind,AP .neq t x (.const (.pointer none)) (.pointer a) (.pointer none) (fun u=>by simp) (fun u v=>by simp),hrun,Result.andThen_ok,Sem.run_pure]
theorem Xq{d:D}{a:Option Addr}(ht:Pj P t=true)(hx:ev A.e x=some d)(ha:XS d=some a)(hk:k (.b a.isNone) st):S P r none ⟨dst,.binOp .eql t x (.const (.pointer none)) t',ty,pos,aft,gd⟩ A st k:=by
 refine AU (by intro c hc;cases hc) fun ρ w hr hh=>.inl ?_
 have hv1:=Ny (hr _ (by simp[Op.operands]) _ hx) ha
 have hv2:=hr.cst (.pointer none)
 have hu:=La ht
 refine⟨.bool a.isNone,w,?_,_,_,.s (.bool a.isNone) rfl,hh,Ext.refl _ _,hk⟩
 unfold execOp
 have hd:∀d:Nat,(Op.equalIn (d+1) t (.pointer a) (.pointer none)).run P w=.ok a.isNone w:=fun d=>by cases a<;>simp[Op.equalIn,run_underlying hu]
 have hrun:(binOp .eql t (.pointer a) (.pointer none)).run P w=.ok (.bool a.isNone) w:=by
  simp only[binOp]
  simp[Op.equal,Op.maxDepth,hd 9999]
 simp only[hv1,hv2,Sem.run_bind,AP .eql t x (.const (.pointer none)) (.pointer a) (.pointer none) (fun u=>by simp) (fun u v=>by simp),hrun,Result.andThen_ok,Sem.run_pure]
end
structure MRep (l:List KE)(K:List MK):Prop where
 nd:(l.map KE.k).Nodup
 at_:∀(k:MK) (x:Int),BM l k=some x↔∃j:Nat,x=j∧K[j]?=some k
theorem Gg{l:List KE}{k:MK}{x:Int}(h:BM l k=some x):∃e∈l,e.k=k∧e.x=x:=by
 unfold BM at h
 cases hf:l.find? (fun e=>decide (k=e.k)) with
|none=>rw[hf] at h;cases h
|some e =>
  rw[hf] at h
  have h1:=List.find?_some hf
  exact⟨e,List.mem_of_find?_eq_some hf,(of_decide_eq_true h1).symm,Option.some.inj h⟩
theorem BR{l:List KE}{e:KE}(h:(l.map KE.k).Nodup)(he:e∈l):BM l e.k=some e.x:=by
 unfold BM
 induction l with
|nil=>cases he
|cons a l ih =>
  rw[List.map_cons,List.nodup_cons] at h
  rw[List.find?_cons]
  rcases List.mem_cons.1 he with rfl|he
  · rw[decide_eq_true rfl];rfl
  · have:e.k≠a.k:=fun e1=>h.1 (e1▸List.mem_map_of_mem he)
    rw[decide_eq_false this]
    exact ih h.2 he
theorem Bz{l:List KE}{k:MK}:BM l k=none↔∀e∈l,e.k≠k:=by
 unfold BM
 rw[Option.map_eq_none_iff,List.find?_eq_none]
 exact⟨fun h e he e1=>h e he (decide_eq_true e1.symm),fun h e he e1=>h e he (of_decide_eq_true e1).symm⟩
theorem VO{l:List KE}{c:Nat}{k:MK}{x:Int}(h:BM l k=none):BF l c k x=(l++[⟨k,x,c⟩],c+1):=by
 have hn:l.findIdx? (fun e=>decide (k=e.k))=none:=List.findIdx?_eq_none_iff.2 fun e he=>decide_eq_false fun e1=>Bz.1 h e he e1.symm
 unfold BF
 rw[hn]
theorem Ik{l:List KE}{c:Nat}{k:MK}{x:Int}(h:(l.map KE.k).Nodup):((BF l c k x).1.map KE.k).Nodup∧∀k',BM (BF l c k x).1 k'=if k'=k then some x else BM l k':=by
 cases hi:l.findIdx? (fun e=>decide (k=e.k)) with
|none =>
  have hkn:BM l k=none:=Bz.2 fun e he e1=>by
   have:=List.findIdx?_eq_none_iff.1 hi e he
   rw[decide_eq_true e1.symm] at this
   cases this
  rw[VO hkn]
  have hnd:((l++[⟨k,x,c⟩]:List KE).map KE.k).Nodup:=by
   rw[List.map_append,List.nodup_append]
   refine⟨h,List.nodup_cons.2 ⟨List.not_mem_nil,List.nodup_nil⟩,?_⟩
   rintro a ha b hb rfl
   obtain⟨e,he,rfl⟩:=List.mem_map.1 ha
   exact Bz.1 hkn e he (List.mem_singleton.1 hb)
  refine⟨hnd,fun k'=>?_⟩
  by_cases hk:k'=k
  · rw[if_pos hk,hk]
    exact BR (e:=⟨k,x,c⟩) hnd (List.mem_append_right _ (List.mem_singleton.2 rfl))
  · rw[if_neg hk]
    cases hl:BM l k' with
    | none =>
     exact Bz.2 fun e he e1=>(List.mem_append.1 he).elim (fun he=>Bz.1 hl e he e1) fun he=>by
      rw[List.mem_singleton.1 he] at e1
      exact hk e1.symm
    | some y =>
     obtain⟨e,he,rfl,rfl⟩:=Gg hl
     exact BR hnd (List.mem_append_left _ he)
|some i =>
  have hlt:i<l.length:=(List.findIdx?_eq_some_iff_getElem.1 hi).1
  have hek:k=l[i].k:=of_decide_eq_true (List.findIdx?_eq_some_iff_getElem.1 hi).2.1
  have hkp:BF l c k x=(l.modify i fun e=>⟨k,x,e.born⟩,c):=by unfold BF;rw[hi]
  rw[hkp]
  dsimp only
  have hks:(l.modify i fun e=>⟨k,x,e.born⟩).map KE.k=l.map KE.k:=by
   apply List.ext_getElem?
   intro j
   rw[List.getElem?_map,List.getElem?_map,List.getElem?_modify]
   by_cases hj:i=j
   · subst hj
     rw[List.getElem?_eq_getElem hlt]
     simp only[if_true,Option.map_eq_map,Option.map_some]
     exact congrArg some hek
   · simp only[if_neg hj,Option.map_eq_map]
     cases l[j]?<;>rfl
  have hnd:((l.modify i fun e=>⟨k,x,e.born⟩).map KE.k).Nodup:=by rw[hks];exact h
  refine⟨hnd,fun k'=>?_⟩
  have hgi:(l.modify i fun e=>⟨k,x,e.born⟩)[i]?=some ⟨k,x,l[i].born⟩:=by
   rw[List.getElem?_modify,List.getElem?_eq_getElem hlt];simp only[if_true,Option.map_eq_map,Option.map_some]
  by_cases hk:k'=k
  · rw[if_pos hk,hk]
    exact BR (e:=⟨k,x,l[i].born⟩) hnd (List.mem_of_getElem? hgi)
  · rw[if_neg hk]
    cases hl:BM l k' with
    | none =>
     refine Bz.2 fun e he e1=>?_
     have:e.k∈l.map KE.k:=hks▸List.mem_map_of_mem he
     obtain⟨e',he',e2⟩:=List.mem_map.1 this
     exact Bz.1 hl e' he' (e2.trans e1)
    | some y =>
     obtain⟨e,he,rfl,rfl⟩:=Gg hl
     obtain⟨j,hj,rfl⟩:=List.getElem_of_mem he
     have hij:i≠j:=fun e1=>hk (by subst e1;exact hek.symm)
     have hgj:(l.modify i fun e=>⟨k,x,e.born⟩)[j]?=some l[j]:=by
      rw[List.getElem?_modify,List.getElem?_eq_getElem hj];simp only[if_neg hij,Option.map_eq_map,Option.map_some]
     exact BR hnd (List.mem_of_getElem? hgj)
theorem Ty{l:List KE}{k:MK}(h:(l.map KE.k).Nodup):((DT l k).map KE.k).Nodup∧∀k',BM (DT l k) k'=if k'=k then none else BM l k':=by
 have hsub:(DT l k).Sublist l:=by
  unfold DT
  split
  · exact List.eraseIdx_sublist ..
  · exact .refl _
 have hnd:((DT l k).map KE.k).Nodup:=h.sublist (hsub.map _)
 have hmem:∀e∈l,e.k≠k→e∈DT l k:=fun e he hne=>by
  unfold DT
  split
  · rename_i i hi
    have hlt:i<l.length:=(List.findIdx?_eq_some_iff_getElem.1 hi).1
    have hek:k=l[i].k:=of_decide_eq_true (List.findIdx?_eq_some_iff_getElem.1 hi).2.1
    obtain⟨j,hj,rfl⟩:=List.getElem_of_mem he
    have hij:j≠i:=fun e1=>hne (by subst e1;exact hek.symm)
    exact List.mem_eraseIdx_iff_getElem.2 ⟨j,hj,hij,rfl⟩
  · exact he
 have hnot:∀e∈DT l k,e.k≠k:=fun e he e1=>by
  unfold DT at he
  split at he
  · rename_i i hi
    have hlt:i<l.length:=(List.findIdx?_eq_some_iff_getElem.1 hi).1
    have hek:k=l[i].k:=of_decide_eq_true (List.findIdx?_eq_some_iff_getElem.1 hi).2.1
    obtain⟨j,hj,hij,rfl⟩:=List.mem_eraseIdx_iff_getElem.1 he
    have h1:(l.map KE.k)[j]?=(l.map KE.k)[i]?:=by
     rw[List.getElem?_map,List.getElem?_map,List.getElem?_eq_getElem hj,List.getElem?_eq_getElem hlt]
     exact congrArg some (e1.trans hek)
    exact hij ((List.getElem?_inj (by rw[List.length_map];exact hj) h).1 h1)
  · rename_i hi
    have:=List.findIdx?_eq_none_iff.1 hi e he
    rw[decide_eq_true e1.symm] at this
    cases this
 refine⟨hnd,fun k'=>?_⟩
 by_cases hk:k'=k
 · rw[if_pos hk,hk]
   exact Bz.2 hnot
 · rw[if_neg hk]
   cases hl:BM l k' with
   | none=>exact Bz.2 fun e he=>Bz.1 hl e (hsub.subset he)
   | some y =>
    obtain⟨e,he,rfl,rfl⟩:=Gg hl
    exact BR hnd (hmem e he hk)
theorem MRep.nil:MRep [] []:=⟨List.nodup_nil,fun k x=>⟨fun h=>(by cases h),fun⟨j,_,h⟩=>by cases h⟩⟩
theorem MRep.nodup{l:List KE}{K:List MK}(h:MRep l K):K.Nodup:=by
 refine List.pairwise_iff_getElem.2 fun i j hi hj hij e=>?_
 have h1:=(h.at_ K[i] i).2 ⟨i,rfl,List.getElem?_eq_getElem hi⟩
 have h2:=(h.at_ K[i] j).2 ⟨j,rfl,by rw[List.getElem?_eq_getElem hj,e]⟩
 rw[h1] at h2
 have:(i:Int)=j:=Option.some.inj h2
 omega
theorem MRep.look{l:List KE}{K:List MK}(h:MRep l K){k:MK}{j:Nat}(hk:K[j]?=some k):BM l k=some (j:Int):=(h.at_ k j).2 ⟨j,rfl,hk⟩
theorem MRep.none{l:List KE}{K:List MK}(h:MRep l K){k:MK}(hk:k∉K):BM l k=none:=by
 cases hl:BM l k with
|none=>rfl
|some x =>
  obtain⟨j, -,h2⟩:=(h.at_ k x).1 hl
  exact absurd (List.mem_of_getElem? h2) hk
theorem MRep.keys{l:List KE}{K:List MK}(h:MRep l K):∀e∈l,e.k∈K:=fun e he=>by
 obtain⟨j, -,h2⟩:=(h.at_ e.k e.x).1 (BR h.nd he)
 exact List.mem_of_getElem? h2
theorem MRep.put{l:List KE}{K:List MK}(h:MRep l K){k:MK}(c:Nat)(hk:k∉K):MRep (BF l c k K.length).1 (K++[k]):=by
 obtain⟨h1,h2⟩:=Ik (c:=c) (k:=k) (x:=K.length) h.nd
 refine⟨h1,fun k' x=>?_⟩
 rw[h2]
 by_cases e:k'=k
 · subst e
   rw[if_pos rfl]
   constructor
   · intro e;cases e;exact⟨K.length,rfl,by simp⟩
   · rintro⟨j,rfl,hj⟩
     rcases Nat.lt_trichotomy j K.length with hlt|rfl|hgt
     · rw[List.getElem?_append_left hlt] at hj
       exact absurd (List.mem_of_getElem? hj) hk
     · rfl
     · rw[List.getElem?_eq_none (by rw[List.length_append,List.length_singleton];omega)] at hj
       cases hj
 · rw[if_neg e,h.at_]
   constructor
   · rintro⟨j,rfl,hj⟩
     exact⟨j,rfl,by rw[List.getElem?_append_left (List.getElem?_eq_some_iff.1 hj).1];exact hj⟩
   · rintro⟨j,rfl,hj⟩
     refine⟨j,rfl,?_⟩
     rcases Nat.lt_trichotomy j K.length with hlt|rfl|hgt
     · rwa[List.getElem?_append_left hlt] at hj
     · rw[List.getElem?_append_right (Nat.le_refl _),Nat.sub_self] at hj
       exact absurd (Option.some.inj hj).symm e
     · rw[List.getElem?_eq_none (by rw[List.length_append,List.length_singleton];omega)] at hj
       cases hj
def Ax {α:Type}(K:List α)(i:Nat)(z:α):List α:=(K.set i z).take (K.length - 1)
theorem Ey{α:Type}{K:List α}{i:Nat}{z:α}(hi:i<K.length)(hz:K[K.length - 1]?=some z)(j:Nat):(Ax K i z)[j]?=if j<K.length - 1 then(if j=i then some z else K[j]?) else none:=by
 unfold Ax
 rw[List.getElem?_take]
 split
 · rw[List.getElem?_set]
   by_cases e:i=j
   · rw[if_pos e,if_pos e.symm,if_pos q_o]
   · rw[if_neg e,if_neg fun h=>e h.symm]
 · rfl
theorem MRep.drop{l:List KE}{K:List MK}(h:MRep l K){k z:MK}{i:Nat}(c:Nat)(hi:K[i]?=some k)(hz:K[K.length - 1]?=some z):MRep (DT (BF l c z i).1 k) (Ax K i z):=by
 obtain⟨h1,h2⟩:=Ik (c:=c) (k:=z) (x:=i) h.nd
 obtain⟨h3,h4⟩:=Ty (k:=k) h1
 have hlt:=(List.getElem?_eq_some_iff.1 hi).1
 have hnd:=h.nodup
 have inj:∀{a b:Nat} {y:MK},K[a]?=some y→K[b]?=some y→a=b:=fun {a b y} ha hb=>(List.getElem?_inj (List.getElem?_eq_some_iff.1 ha).1 hnd).1 (ha.trans hb.symm)
 refine⟨h3,fun k' x=>?_⟩
 rw[h4,h2]
 by_cases e:k'=k
 · subst e
   rw[if_pos rfl]
   refine⟨fun h=>(by cases h),?_⟩
   rintro⟨j,rfl,hj⟩
   rw[Ey hlt hz] at hj
   split at hj
   · split at hj
     · rename_i h5 h6
       rw[hj] at hz
       have:=inj hz hi
       omega
     · rename_i h5 h6
       exact absurd (inj hj hi) h6
   · cases hj
 · rw[if_neg e]
   by_cases ez:k'=z
   · subst ez
     rw[if_pos rfl]
     have hne:i≠K.length - 1:=fun h5=>e (by
      rw[←h5,hi] at hz
      exact(Option.some.inj hz).symm)
     constructor
     · intro h5;cases h5
       exact⟨i,rfl,by rw[Ey hlt hz,if_pos q_o,if_pos rfl]⟩
     · rintro⟨j,rfl,hj⟩
       rw[Ey hlt hz] at hj
       split at hj
       · split at hj
         · rename_i h5 h6;rw[h6]
         · rename_i h5 h6
           have:=inj hj hz
           omega
       · cases hj
   · rw[if_neg ez,h.at_]
     constructor
     · rintro⟨j,rfl,hj⟩
       have hji:j≠i:=fun h5=>e (by rw[h5,hi] at hj;exact(Option.some.inj hj).symm)
       have hjn:j≠K.length - 1:=fun h5=>ez (by rw[h5,hz] at hj;exact(Option.some.inj hj).symm)
       have hjl:=(List.getElem?_eq_some_iff.1 hj).1
       exact⟨j,rfl,by rw[Ey hlt hz,if_pos q_o,if_neg hji];exact hj⟩
     · rintro⟨j,rfl,hj⟩
       rw[Ey hlt hz] at hj
       split at hj
       · split at hj
         · exact absurd (Option.some.inj hj).symm ez
         · exact⟨j,rfl,hj⟩
       · cases hj
end
section
section
variable {P:Program} {st:St} {w:World}
theorem MV{z:Array Value}{n:Nat}(hz:0<z.size):∀v∈(Builtin.zeroCells z n).toList,v∈z.toList:=by
 intro v hv
 unfold Builtin.zeroCells at hv
 rw[Array.toList_map,List.mem_map] at hv
 obtain⟨i, -,rfl⟩:=hv
 have hlt:i % z.size<z.size:=Nat.mod_lt _ hz
 rw[getElem!_pos z _ hlt]
 exact Array.getElem_mem_toList hlt
def zOk (v:Value):Bool:=CJ v && (AN v).leaf
theorem Qo{O:Nat→Nat→Prop}{us:List Value}(h:∀v∈us,zOk v=true):RepL O w us (us.map AN)∧∀d∈us.map AN,d.leaf=true:=by
 have h1:∀v∈us,CJ v=true∧(AN v).leaf=true:=fun v hv=>by
  have:=h v hv
  unfold zOk at this
  rwa[Bool.and_eq_true] at this
 refine⟨?_,fun d hd=>?_⟩
 · have:=RepL.map (O:=O) (w:=w) (l:=us) (f:=id) (g:=AN) (fun x hx=>Gf (h1 x hx).1)
   rwa[List.map_id] at this
 · obtain⟨v,hv,rfl⟩:=List.mem_map.1 hd
   exact(h1 v hv).2
theorem Ya{g : Nat}{e:TypeId}{cs:List D}{s0:St}(h:Holds (.box g e cs::s0) w){us:List Value}{cs':List D}(hr:RepL (OwnS (.box g e cs::s0)) w us cs')(hl:∀d∈cs',d.leaf=true) :
 Holds (.box w.heap.size e cs'::s0) (w.drew.alloc (.cells us.toArray e))∧Ext (OwnS (.box g e cs::s0)) w (OwnS (.box w.heap.size e cs'::s0)) (w.drew.alloc (.cells us.toArray e)):=by
 have he:=Ext.drewN (OwnS (.box g e cs::s0)) w 1
 have:=Hh (h.drewN 1) e (hr.ext he) hl
 have hs:(Res.box w.heap.size e cs'::s0).Sublist (.box w.heap.size e cs'::.box g e cs::s0):=(List.sublist_cons_self _ _).cons₂ _
 exact⟨this.1.sub hs,(he.trans this.2).trans (Ext.drop (fun _ h=>hs.subset h) _)⟩
theorem Kq(T ty e:TypeId){i:TypeInfo}{zv:Value}(hd:P.underlying T=some (.slice e))(hi:P.info? e=some i)(hzv:i.zero=some zv)(hzs:zv.cells.size=i.size)(hsz:0<i.size)(hz:∀v∈zv.cells.toList,zOk v=true)
 {g n cap:Nat}{ds zs:List D}{s0:St}(h:Holds (.box g e (ds++zs)::s0) w)(hn:n≤cap)(hc:cap≤maxLen)(hds:ds.length=n*i.size)(hl:(ds++zs).length=cap*i.size)
 {xad:Addr}{m xcap:Nat}{news:List Value}{yd:List D}(hnl:news.length=m*i.size)(hnews:∀j u,news[j]?=some u→w.cell? (xad.add j)=some u)(hrep:RepL (OwnS (.box g e (ds++zs)::s0)) w news yd)(hleaf:∀d∈yd,d.leaf=true)
 (hb:(n+m)*i.bytes≤140737488355328)(hm:n+m≤140737488355328) :
 ∃w' g' cap' zs',(Builtin.append_ #[T,T] ty #[.slice (some ⟨g,0,none⟩) n cap,.slice (some xad) m xcap]).run P w=.ok (.slice (some ⟨g',0,none⟩) (n+m) cap') w'∧n+m≤cap'∧cap'≤maxLen∧(ds++yd++zs').length=cap'*i.size ∧
  Holds (.box g' e (ds++yd++zs')::s0) w'∧Ext (OwnS (.box g e (ds++zs)::s0)) w (OwnS (.box g' e (ds++yd++zs')::s0)) w':=by
 obtain⟨⟨cur,hg,hr⟩,hlc⟩:=h.2 _ (List.mem_cons_self ..)
 have hcs:cur.toList.length=cap*i.size:=hr.1.trans hl
 have hyl:yd.length=m*i.size:=hrep.1.symm.trans hnl
 have hmul:n*i.size+m*i.size=(n+m)*i.size:=(Nat.add_mul ..).symm
 have htk:RepL (OwnS (.box g e (ds++zs)::s0)) w (cur.toList.take (n*i.size)) ds:=by
  have:=hr.take (n*i.size)
  rwa[List.take_append_of_le_length q_o,List.take_of_length_le (l:=ds) q_o] at this
 have hdl:∀d∈ds,d.leaf=true:=fun d hd=>hlc d (List.mem_append_left _ hd)
 have hzl:∀d∈zs,d.leaf=true:=fun d hd=>hlc d (List.mem_append_right _ hd)
 by_cases hroom:n+m≤cap
 · have hle:(n+m)*i.size≤cap*i.size:=Nat.mul_le_mul_right _ hroom
   have hrun:=run_append_room (P:=P) w T ty e i hd hi g n cap cur hg xad m xcap news hnl hnews (hrep.leafOne hleaf) hroom (by rw[←Array.length_toList];omega)
   have hdr:RepL (OwnS (.box g e (ds++zs)::s0)) w (cur.toList.drop (n*i.size+news.length)) (zs.drop (m*i.size)):=by
    have:=hr.drop (n*i.size+news.length)
    rwa[List.drop_append,List.drop_of_length_le (l:=ds) q_o,List.nil_append,show n*i.size+news.length - ds.length=m*i.size by omega] at this
   obtain⟨q1,q2⟩:=QC (us':=(cur.toList.take (n*i.size)++news++cur.toList.drop (n*i.size+news.length)).toArray) h hg (by
    rw[←Array.length_toList,←Array.length_toList]
    simp only[List.length_append,List.length_take,List.length_drop]
    omega) ((htk.append hrep).append hdr) (fun d hd=>by
     rw[List.mem_append,List.mem_append] at hd
     rcases hd with(hd|hd)|hd
     · exact hdl d hd
     · exact hleaf d hd
     · exact hzl d (List.mem_of_mem_drop hd))
   refine⟨_,g,cap,zs.drop (m*i.size),hrun,hroom,hc,?_,q1,q2⟩
   simp only[List.length_append,List.length_drop] at hl ⊢
   omega
 · have hrun := run_append_grow (P := P) w T ty e i zv hd hi hzv ⟨g, 0, none⟩ n cap (cur.toList.take (n * i.size)) (by rw [List.length_take]; have : n * i.size ≤ cap * i.size := Nat.mul_le_mul_right _ hn; omega) (fun j v hv => by
    rw[Bu,Nat.zero_add,cell_of_row w g j cur e (0,0) hg]
    rw[List.getElem?_take] at hv
    split at hv
    · rw[←hv];simp
    · cases hv) xad m xcap news hnl hnews q_o q_o (growslice_fits q_o hb)
   have hge:=grownCap_ge w (n+m) cap e
   have hcm:=grownCap_le_maxLen w (n+m) cap e (by unfold maxLen;omega)
   generalize grownCap w (n+m) cap e=nc at *
   have hzm:=Qo (O:=OwnS (.box g e (ds++zs)::s0)) (w:=w) fun v hv=>hz v (MV (n:=nc - (n+m)) q_o v hv)
   have hq:=Ya h ((htk.append hrep).append hzm.1) (fun d hd=>by
    rw[List.mem_append,List.mem_append] at hd
    rcases hd with(hd|hd)|hd
    · exact hdl d hd
    · exact hleaf d hd
    · exact hzm.2 d hd)
   have heq:((cur.toList.take (n*i.size)).toArray++news.toArray++Builtin.zeroCells zv.cells (nc - (n+m)))=((cur.toList.take (n*i.size)++news)++(Builtin.zeroCells zv.cells (nc - (n+m))).toList).toArray:=by simp
   rw[heq] at hrun
   refine⟨_,w.heap.size,nc,_,hrun,hge,hcm,?_,hq.1,hq.2⟩
   simp only[List.length_append,List.length_map,Array.length_toList,size_zeroCells,hzs]
   rw[hds,hyl,←Nat.add_mul,←Nat.add_mul]
   congr 1
   omega
theorem Fp(T ty e:TypeId){i:TypeInfo}{zv:Value}(hd:P.underlying T=some (.slice e))(hi:P.info? e=some i)(hzv:i.zero=some zv)(hzs:zv.cells.size=i.size)(hsz:0<i.size)(hz:∀v∈zv.cells.toList,zOk v=true)
 (h:Holds st w){x:Value}(hx:Rep (OwnS st) w x (.sl .tight []))
 {xad:Addr}{m xcap:Nat}{news:List Value}{yd:List D}(hnl:news.length=m*i.size)(hnews:∀j u,news[j]?=some u→w.cell? (xad.add j)=some u)(hrep:RepL (OwnS st) w news yd)(hleaf:∀d∈yd,d.leaf=true)
 (hpos:0<m)(hb:m*i.bytes≤140737488355328)(hm:m≤140737488355328) :
 ∃w' g' cap' zs',(Builtin.append_ #[T,T] ty #[x,.slice (some xad) m xcap]).run P w=.ok (.slice (some ⟨g',0,none⟩) m cap') w'∧m≤cap'∧cap'≤maxLen∧(yd++zs').length=cap'*i.size ∧
  Holds (.box g' e (yd++zs')::st) w'∧Ext (OwnS st) w (OwnS (.box g' e (yd++zs')::st)) w':=by
 obtain⟨a,cap,us,sz,rfl,c1,c2,c3,c4,c5,c6,c7,c8,c9,c10⟩:=Bo hx
 have hcap:cap=0:=c10
 subst hcap
 have hyl:yd.length=m*i.size:=hrep.1.symm.trans hnl
 have hrun:∃old,(Builtin.append_ #[T,T] ty #[.slice a ([]:List (List D)).length 0,.slice (some xad) m xcap]).run P w=.ok (.slice (some ⟨w.heap.size,0,none⟩) m (grownCap w m old e)) (w.drew.alloc (.cells (news.toArray++Builtin.zeroCells zv.cells (grownCap w m old e - m)) e)):=by
  cases a with
  | none=>exact⟨0,run_append_nil (P:=P) w T ty e i zv hd hi hzv xad m xcap news hnl hnews hpos q_o q_o⟩
  | some ad =>
   refine⟨0,?_⟩
   have:=run_append_grow (P:=P) w T ty e i zv hd hi hzv ad 0 0 [] (by simp) (fun j v hv=>by simp at hv) xad m xcap news hnl hnews q_o q_o (growslice_fits q_o (by rw[Nat.zero_add];exact hb))
   simpa using this
 obtain⟨old,hrun⟩:=hrun
 have hge:=grownCap_ge w m old e
 have hcm:=grownCap_le_maxLen w m old e (by unfold maxLen;omega)
 generalize grownCap w m old e=nc at *
 have hzm:=Qo (O:=OwnS st) (w:=w) fun v hv=>hz v (MV (n:=nc - m) q_o v hv)
 have he:=Ext.drewN (OwnS st) w 1
 have hq:=Hh (h.drewN 1) e ((hrep.append hzm.1).ext he) (fun d hd=>by
  rw[List.mem_append] at hd
  exact hd.elim (hleaf d) (hzm.2 d))
 have heq:(news.toArray++Builtin.zeroCells zv.cells (nc - m))=(news++(Builtin.zeroCells zv.cells (nc - m)).toList).toArray:=by simp
 rw[heq] at hrun
 refine⟨_,w.heap.size,nc,_,hrun,hge,hcm,?_,hq.1,he.trans hq.2⟩
 simp only[List.length_append,List.length_map,Array.length_toList,size_zeroCells,hzs]
 rw[hyl,←Nat.add_mul]
 congr 1
 omega
end
section
variable {P:Program} {N:Nat} {r:Option Nat} {A:AA} {st:St} {Q:Exit→AA→St→Prop} {m:Option Ro} {k:D→St→Prop} {dst:Option Tmp} {ty:TypeId} {pos:String} {aft:Array Edge} {gd:Option (Nat×Bool)} {o:Oper} {w:World}
def Mq (P:Program)(t:TypeId):Option (TypeId×Nat×Nat):=(Ag P t).bind fun ti=>match ti.k with
|.slice el sz bytes z=>if z.all zOk=true then some (el,sz,bytes) else none
|_=>none
theorem Ia{t el:TypeId}{sz bytes:Nat}(h:Mq P t=some (el,sz,bytes)):P.underlying t=some (.slice el)∧∃i zv,P.info? el=some i∧i.zero=some zv∧zv.cells.size=i.size∧0<i.size∧i.size=sz∧i.bytes=bytes∧∀v∈zv.cells.toList,zOk v=true:=by
 unfold Mq at h
 cases ht:Ag P t with
|none=>rw[ht] at h;cases h
|some ti =>
  rw[ht,Option.bind_some] at h
  split at h
  · rename_i el' sz' bytes' z hk
    split at h
    · rename_i hz
      cases h
      obtain⟨hu,ii,zv,q1,q2,q3,q4,q5,q6,q7⟩:=(Ap ht).2.2.2.2.1 _ _ _ _ hk
      subst q4
      exact⟨hu,ii,zv,q1,q2,q7,q6,rfl,q5,by rw[q3];exact List.all_eq_true.1 hz⟩
    · cases h
  · cases h
def di (P:Program)(m:Option Ro)(t:TypeId)(p:D×D)(st:St)(k:D→St→Prop):Prop :=
 ∃(el:TypeId) (sz bytes:Nat) (g n cap:Nat) (ds zs:List D) (oy:Own) (ys:List (List D)) (s1:Nat→List D→St),p=(.ar g 0 n cap,.sl oy ys)∧Mq P t=some (el,sz,bytes)∧(∀g' cs',ResAt (.box g el (ds++zs)) (.box g' el cs') st (s1 g' cs'))∧ds.length=n*sz∧(ds++zs).length=cap*sz∧(∀a∈ys,a.length=sz)∧(n+ys.length)*bytes≤140737488355328∧n+ys.length≤140737488355328 ∧
  ∀g' cap' zs',n+ys.length≤cap'→(ds++ys.flatten++zs').length=cap'*sz→AE m (s1 g' (ds++ys.flatten++zs'))∧k (.ar g' 0 (n+ys.length) cap') (s1 g' (ds++ys.flatten++zs'))
theorem DK{t:TypeId}{x y:Operand}(h:Ev (DP (ev A.e x) (ev A.e y)) fun p=>di P m t p st k):S P r m ⟨dst,.call ⟨.builtin .append,#[x,y],#[t,t]⟩,ty,pos,aft,gd⟩ A st k:=by
 obtain⟨p,h1,el,sz,bytes,g,n,cap,ds,zs,oy,ys,s1,rfl,h2,h3,h4,h5,h6,h7,h8,h9⟩:=h
 unfold DP at h1
 split at h1
 · rename_i d d' hx hy
   cases h1
   refine Bk (R:=fun d st'=>∃g' cap' zs',n+ys.length≤cap'∧(ds++ys.flatten++zs').length=cap'*sz∧d=.ar g' 0 (n+ys.length) cap'∧st'=s1 g' (ds++ys.flatten++zs')) rfl ?_ ⟨_,_,0,n+ys.length,[],Nat.le_refl _,by rw[List.append_nil,List.length_append,Bb h6,h4,Nat.add_mul],rfl,rfl⟩ fun d st' ⟨g',cap',zs',ha,hb,e1,e2⟩=>by subst e1 e2;exact h9 g' cap' zs' ha hb
   refine AU (by intro c hc;cases hc) fun ρ w hr hh=>.inl ?_
   have v1:=hr _ (by simp[Op.operands,Call.operands]) _ hx
   have v2:=hr _ (by simp[Op.operands,Call.operands]) _ hy
   obtain⟨q1,i,zv,q2,q3,q4,q5,rfl,rfl,q8⟩:=Ia h2
   obtain⟨s0,p1, -⟩:=(h3 g (ds++zs)).perm
   have hown:=OwnS.perm p1
   have hh':=hh.perm p1
   unfold execOp
   simp only[resolve,invoke,builtin,Sem.run_bind,Sem.run_pure,Result.andThen_ok,List.map_toArray,List.map_cons,List.map_nil]
   generalize ρ x=xv at v1
   generalize ρ y=yv at v2
   cases v1 with
   | ar _ _ _ _ c1 c2 =>
   rw[hown] at v2
   obtain⟨xa,xcap,xus,xsz,rfl,x1,x2,x3,x4,x5,x6,x7,x8,x9, -⟩:=Bo v2
   by_cases hys:ys=[]
   · subst hys
     have:=Fo (w:=w) t ty el i q1 q2 (some ⟨g,0,none⟩) n cap c1 xa xcap
     rw[show([]:List (List D)).length=0 from rfl]
     rw[this]
     obtain⟨s0',p1',p2'⟩:=(h3 g (ds++zs)).perm
     refine⟨_,w,rfl,_,s1 g (ds++zs),.ar g 0 n cap c1 c2,hh.perm (p1'.trans p2'.symm),?_,g,cap,zs,by simpa using c1,by simpa using h5,by simp,by simp⟩
     rw[OwnS.perm (p1'.trans p2'.symm)]
     exact Ext.refl _ _
   · obtain ⟨xad, rfl⟩ : ∃ ad, xa = some ad := by
      cases xa with
      | none=>have:=x8 rfl;have:0<ys.length:=List.length_pos_iff.2 hys;omega
      | some ad=>exact⟨ad,rfl⟩
     obtain⟨w',g',cap',zs',e1,e2,e3,e4,e5,e6⟩:=Kq t ty el q1 q2 q3 q4 q5 q8 hh' c1 c2 h4 h5 (xcap:=xcap) (by rw[x6.1];exact Bb h6) (Dh x9 rfl) x6 x7 h7 h8
     obtain⟨s0',p1',p2'⟩:=(h3 g' (ds++ys.flatten++zs')).perm
     have hs:s0.Perm s0':=(List.perm_cons _).1 (p1.symm.trans p1')
     have p3:(Res.box g' el (ds++ys.flatten++zs')::s0).Perm (s1 g' (ds++ys.flatten++zs')):=(hs.cons _).trans p2'.symm
     rw[e1]
     refine⟨_,w',rfl,_,_,.ar g' 0 _ cap' e2 e3,e5.perm p3,?_,g',cap',zs',e2,e4,rfl,rfl⟩
     rw[hown,←OwnS.perm p3];exact e6
 · cases h1
def dm (m:Option Ro)(q:TypeId×Nat×Nat)(p:D×D)(st:St)(k:D→St→Prop):Prop :=
 ∃(g n cap:Nat) (ds zs:List D) (oy:Own) (ys:List (List D)) (s1:Nat→List D→St),p=(.ar g 0 n cap,.sl oy ys)∧(∀g' cs',ResAt (.box g q.1 (ds++zs)) (.box g' q.1 cs') st (s1 g' cs'))∧ds.length=n*q.2.1∧(ds++zs).length=cap*q.2.1∧(∀a∈ys,a.length=q.2.1)∧(n+ys.length)*q.2.2≤140737488355328∧n+ys.length≤140737488355328 ∧
  ∀g' cap' zs',n+ys.length≤cap'→(ds++ys.flatten++zs').length=cap'*q.2.1→AE m (s1 g' (ds++ys.flatten++zs'))∧k (.ar g' 0 (n+ys.length) cap') (s1 g' (ds++ys.flatten++zs'))
theorem FD{t:TypeId}{p:D×D}(h:Ev (Mq P t) fun q=>dm m q p st k):di P m t p st k:=by
 obtain⟨⟨el,sz,bytes⟩,h1,g,n,cap,ds,zs,oy,ys,s1,h2,h3,h4,h5,h6,h7,h8,h9⟩:=h
 exact⟨el,sz,bytes,g,n,cap,ds,zs,oy,ys,s1,h2,h1,h3,h4,h5,h6,h7,h8,h9⟩
theorem DN{el:TypeId}{sz bytes g n cap:Nat}{ds zs:List D}{oy:Own}{ys:List (List D)}{s1:Nat→List D→St}(h4:ds.length=n*sz)(h5:(ds++zs).length=cap*sz)(h3:∀g' cs',ResAt (.box g el (ds++zs)) (.box g' el cs') st (s1 g' cs'))(h6:∀a∈ys,a.length=sz)(h7:(n+ys.length)*bytes≤140737488355328)(h8:n+ys.length≤140737488355328)
 (h9:∀g' cap' zs',n+ys.length≤cap'→(ds++ys.flatten++zs').length=cap'*sz→AE m (s1 g' (ds++ys.flatten++zs'))∧k (.ar g' 0 (n+ys.length) cap') (s1 g' (ds++ys.flatten++zs'))):dm m (el,sz,bytes) (.ar g 0 n cap,.sl oy ys) st k:=⟨g,n,cap,ds,zs,oy,ys,s1,rfl,h3,h4,h5,h6,h7,h8,h9⟩
def dh (P:Program)(m:Option Ro)(t:TypeId)(p:D×D)(st:St)(k:D→St→Prop):Prop :=
 ∃(el:TypeId) (sz bytes:Nat) (oy:Own) (ys:List (List D)),p=(.sl .tight [],.sl oy ys)∧Mq P t=some (el,sz,bytes)∧0<ys.length∧(∀a∈ys,a.length=sz)∧ys.length*bytes≤140737488355328∧ys.length≤140737488355328 ∧
  ∀g' cap' zs',ys.length≤cap'→(ys.flatten++zs').length=cap'*sz→AE m (.box g' el (ys.flatten++zs')::st)∧k (.ar g' 0 ys.length cap') (.box g' el (ys.flatten++zs')::st)
theorem Em{t:TypeId}{x y:Operand}(h:Ev (DP (ev A.e x) (ev A.e y)) fun p=>dh P m t p st k):S P r m ⟨dst,.call ⟨.builtin .append,#[x,y],#[t,t]⟩,ty,pos,aft,gd⟩ A st k:=by
 obtain⟨p,h1,el,sz,bytes,oy,ys,rfl,h2,hpos,h6,h7,h8,h9⟩:=h
 unfold DP at h1
 split at h1
 · rename_i d d' hx hy
   cases h1
   refine Bk (R:=fun d st'=>∃g' cap' zs',ys.length≤cap'∧(ys.flatten++zs').length=cap'*sz∧d=.ar g' 0 ys.length cap'∧st'=.box g' el (ys.flatten++zs')::st) rfl ?_ ⟨_,_,0,ys.length,[],Nat.le_refl _,by rw[List.append_nil,Bb h6],rfl,rfl⟩ fun d st' ⟨g',cap',zs',ha,hb,e1,e2⟩=>by subst e1 e2;exact h9 g' cap' zs' ha hb
   refine AU (by intro c hc;cases hc) fun ρ w hr hh=>.inl ?_
   have v1:=hr _ (by simp[Op.operands,Call.operands]) _ hx
   have v2:=hr _ (by simp[Op.operands,Call.operands]) _ hy
   obtain⟨q1,i,zv,q2,q3,q4,q5,rfl,rfl,q8⟩:=Ia h2
   unfold execOp
   simp only[resolve,invoke,builtin,Sem.run_bind,Sem.run_pure,Result.andThen_ok,List.map_toArray,List.map_cons,List.map_nil]
   generalize ρ x=xv at v1
   generalize ρ y=yv at v2
   obtain⟨xa,xcap,xus,xsz,rfl,x1,x2,x3,x4,x5,x6,x7,x8,x9, -⟩:=Bo v2
   obtain⟨xad,rfl⟩:∃ad,xa=some ad:=by
    cases xa with
    | none=>have:=x8 rfl;omega
    | some ad=>exact⟨ad,rfl⟩
   obtain⟨w',g',cap',zs',e1,e2,e3,e4,e5,e6⟩:=Fp t ty el q1 q2 q3 q4 q5 q8 hh v1 (xcap:=xcap) (by rw[x6.1];exact Bb h6) (Dh x9 rfl) x6 x7 hpos h7 h8
   rw[e1]
   exact⟨_,w',rfl,_,_,.ar g' 0 _ cap' e2 e3,e5,e6,g',cap',zs',e2,e4,rfl,rfl⟩
 · cases h1
def Zq (m:Option Ro)(q:TypeId×Nat×Nat)(p:D×D)(st:St)(k:D→St→Prop):Prop :=
 ∃(oy:Own) (ys:List (List D)),p=(.sl .tight [],.sl oy ys)∧0<ys.length∧(∀a∈ys,a.length=q.2.1)∧ys.length*q.2.2≤140737488355328∧ys.length≤140737488355328 ∧
  ∀g' cap' zs',ys.length≤cap'→(ys.flatten++zs').length=cap'*q.2.1→AE m (.box g' q.1 (ys.flatten++zs')::st)∧k (.ar g' 0 ys.length cap') (.box g' q.1 (ys.flatten++zs')::st)
theorem Gs{t:TypeId}{p:D×D}(h:Ev (Mq P t) fun q=>Zq m q p st k):dh P m t p st k:=by
 obtain⟨⟨el,sz,bytes⟩,h1,oy,ys,h2,h3,h4,h5,h6,h7⟩:=h
 exact⟨el,sz,bytes,oy,ys,h2,h1,h3,h4,h5,h6,h7⟩
theorem Eo{el:TypeId}{sz bytes:Nat}{oy:Own}{ys:List (List D)}(h4:0<ys.length)(h6:∀a∈ys,a.length=sz)(h7:ys.length*bytes≤140737488355328)(h8:ys.length≤140737488355328)
 (h9:∀g' cap' zs',ys.length≤cap'→(ys.flatten++zs').length=cap'*sz→AE m (.box g' el (ys.flatten++zs')::st)∧k (.ar g' 0 ys.length cap') (.box g' el (ys.flatten++zs')::st)):Zq m (el,sz,bytes) (.sl .tight [],.sl oy ys) st k:=⟨oy,ys,rfl,h4,h6,h7,h8,h9⟩
end
def Lend (st:St)(d d':D):Prop:=∀w v,Holds st w→Rep (OwnS st) w v d→Rep (OwnS []) w v d'
def LendL (st:St):List D→List D→Prop
|[],[]=>True
|d::l,d'::l'=>Lend st d d'∧LendL st l l'
|_,_=>False
section
variable {st:St} {w:World}
theorem MF(O:Nat→Nat→Prop)(w:World):Ext O w (OwnS []) w:=(Ext.refl O w).less fun b off h=>absurd h (OwnS.nil b off)
theorem Lend.refl(d:D):Lend st d d:=fun w _ _ h=>h.ext (MF _ w)
theorem Lend.sl(o:Own)(es:List (List D)):Lend st (.sl o es) (.sl .shared es):=fun w _ _ h=>(h.ext (MF _ w)).share
theorem LendL.nil:LendL st [] []:=trivial
theorem LendL.cons{d d':D}{l l':List D}(h:Lend st d d')(k:LendL st l l'):LendL st (d::l) (d'::l'):=⟨h,k⟩
theorem LendL.repL:∀{l l':List D},LendL st l l'→Holds st w→∀{us:List Value},RepL (OwnS st) w us l→RepL (OwnS []) w us l'
|[],[],_,_,us,h=>by obtain rfl:=h.inv_nil;exact .nil
|d::l,d'::l',⟨h1,h2⟩,hh,us,h=>by
  obtain⟨u,t,rfl,k1,k2⟩:=h.inv_cons
  exact .cons (h1 w u hh k1) (h2.repL hh k2)
|[],_::_,h,_,_,_=>h.elim
|_::_,[],h,_,_,_=>h.elim
theorem Lend.agg{l l':List D}(h:LendL st l l'):Lend st (.agg l) (.agg l'):=fun w v hh x=>by
 cases x with
|agg us cs h1 h2=>obtain⟨k1,k2⟩:=h.repL (us:=us) hh ⟨h1,h2⟩;exact .agg us l' k1 k2
theorem Lend.row{g:Nat}{el:TypeId}{es:List (List D)}{zs:List D}{sz n cap:Nat}(hm:Res.box g el (es.flatten++zs)∈st)(hsz:0<sz)(hes:∀e∈es,e.length=sz)(hn:es.length=n):Lend st (.ar g 0 n cap) (.sl .shared es):=by
 intro w v hh hv
 obtain⟨⟨us,hb,hr⟩,hlc⟩:=hh.2 _ hm
 cases hv with
|ar _ _ _ _ h1 h2 =>
 subst hn
 have hfl:=Bb hes
 have hrl:RepL (OwnS st) w (us.toList.take (es.length*sz)) es.flatten:=by
  have:=hr.take (es.length*sz)
  rwa[List.take_append_of_le_length q_o,List.take_of_length_le (l:=es.flatten) q_o] at this
 have hrl:=hrl.ext (MF _ w)
 refine .sl .shared es (some ⟨g,0,none⟩) cap (us.toList.take (es.length*sz)) sz h1 h2 (fun e=>by cases e) hsz hes hrl.1 (fun d hd=>hlc d (List.mem_append_left _ hd)) (fun i hi=>⟨g,0,rfl,(Array.getElem?_eq_some_iff.1 hb).1,OwnS.nil _ _,?_⟩) hrl.2 trivial
 rw[Nat.zero_add,cell_of_row w g i us el (0,0) hb]
 rw[List.getElem_take]
 simp at hi
 rw[Array.getElem?_eq_getElem q_o]
 simp
theorem Lend.rowE{st:St}{g:Nat}{el:TypeId}{es:List (List D)}{R zs:List D}{sz n cap:Nat}(hm:Res.box g el (R++zs)∈st)(hR:es.flatten=R)(hsz:0<sz)(hes:∀e∈es,e.length=sz)(hn:es.length=n):Lend st (.ar g 0 n cap) (.sl .shared es):=by
 subst hR
 exact Lend.row hm hsz hes hn
theorem Lend.ptr{b:Nat}{ty:TypeId}{cs cs':List D}(hm:Res.box b ty cs∈st)(hl:LendL st cs cs')(hleaf:∀d∈cs',d.leaf=true):Lend st (.ptr b 0) (.ip cs'):=by
 intro w v hh hv
 obtain⟨⟨us,hb,hr⟩,hlc⟩:=hh.2 _ hm
 have hrl:=hl.repL hh hr
 generalize hz:(0:Nat)=z at hv
 cases hv with
|ptr _ _ =>
 subst hz
 refine .ip b 0 us.toList cs' hrl.1 hleaf (fun i hi=>⟨(Array.getElem?_eq_some_iff.1 hb).1,OwnS.nil _ _,?_⟩) hrl.2
 rw[Nat.zero_add,cell_of_row w b i us ty (0,0) hb]
 rw[Array.getElem?_eq_getElem (by simpa using hi)]
 simp
end
section
variable {P:Program} {f:FuncId} {args args':List D} {st:St} {m:Option Ro} {k:D→St→Prop}
theorem TrF.lend{x:Value}(h:TrF P f args' [] fun d st'=>d=.s x∧st'=[])(hl:LendL st args args'):TrF P f args st fun d st'=>d=.s x∧st'=st:=by
 intro vs w h1 h2
 have h3:=hl.repL h2 h1
 have h0:Holds [] w:=h2.sub (List.nil_sublist _)
 refine(h vs w h3 h0).mono fun _ w' ⟨v,e,d,s,k1,k2,k3,e1,e2⟩=>?_
 subst e1 e2
 have he:Ext (OwnS st) w (OwnS st) w':=by
  refine⟨k3.dr,k3.os,k3.tape,k3.output,k3.size,fun _ _ _ h=>h,fun b hb _=>k3.block b hb fun off=>OwnS.nil b off,fun b c E fr hc=>?_⟩
  exact⟨c,fr,(k3.block b (Array.getElem?_eq_some_iff.1 hc).1 fun off=>OwnS.nil b off).trans hc,rfl,fun _ _=>rfl⟩
 refine⟨v,e,.s x,st,?_,?_,he,rfl,rfl⟩
 · have:=AX k1
   subst this
   cases k1 with
   | s _ hx=>exact .s _ hx
 · exact⟨h2.1,fun r hr=>(h2.2 r hr).ext he fun b hb=>k3.block b ((h2.2 r hr).lt hb) fun off=>OwnS.nil b off⟩
theorem BT{ds ds':List D}{x:Value}(henter:∀args w,(callFunc f args).run P w=.ok (.enter f args) w)(h:TrF P f ds' [] fun d st'=>d=.s x∧st'=[])(hl:LendL st ds ds')(hk:AE m st∧k (.s x) st):Gw P m (f,ds) st k :=
 Rx henter (h.lend hl) hk
end
section
variable {P:Program} {f:FuncId} {ds ds':List D} {st:St} {m:Option Ro} {k:D→St→Prop}
end
attribute [push_cast] Mq zOk
end
section
section
variable {P:Program} {r:Option Nat} {ro:Ro} {st:St} {A:AA} {ops:Array Oper}
theorem Ja{ms:List Nat}(hms:MOk .any ops.toList ms)(hL:Fu ms ops)(hall:Ai ops=true){p:Nat}(hBt:HG ms ops p){op:Oper}(hp:ops[p]?=some op){Q:AA→St→Prop}(ks2:List Nat):∀(ks:List Nat) (listed:Array Bool) (A:AA) (st:St),AL ro st→DC .any ops listed→(∀k∈ks,k≠p∧AK ms p k=true) →
 Cv ms ops (ks++p::ks2) listed=true→Gx P r ro ops (fun A' st'=>∃ro2,AL ro2 st'∧Gx P r ro2 ops Q ks2 A' st') (ks++[p]) A st→Cl P r ro .any ops p Q (ks++p::ks2).length listed A st
|[],listed,A,st,hw,hdc,_,hB,h=>by
  simp only[List.nil_append,Cv,Bool.and_eq_true] at hB
  obtain⟨⟨⟨hr,hf⟩, -⟩,hB'⟩:=hB
  have hrp:p∈Region.ready .any ops listed:=by simpa using hr
  have h:=h op hp
  rw[show([]:List Nat).isEmpty=true from rfl,hall] at h
  refine GL hms hBt hp _ _ _ _ hw hdc (fun j oj hj hne hun hno=>(Bx hp hf j oj hj hne hun hno).1) hrp ?_
  exact Bs hw (fun v w' _ ⟨ro2,q1,q2⟩=>⟨ro2,q1,DG hms hL ks2 _ _ _ q1 (hdc.step hrp) hB' q2⟩) h
|k::ks,listed,A,st,hw,hdc,hwt,hB,h=>by
  simp only[List.cons_append,Cv,Bool.and_eq_true] at hB
  obtain⟨⟨⟨hr,hf⟩, -⟩,hB'⟩:=hB
  have hr':k∈Region.ready .any ops listed:=by simpa using hr
  obtain⟨-,o,h0, -⟩:=mem_ready.1 hr'
  obtain⟨k1,k2⟩:=hwt k (List.mem_cons_self ..)
  refine GM hms h0 k1 k2 _ listed A st hw hdc (Bx h0 hf) hr' ?_
  have h:=h o h0
  have hne:(ks++[p]).isEmpty=false:=by simp
  rw[show List.append ks [p]=ks++[p] from rfl,hne,Bool.false_and] at h
  exact Bs hw (fun v w' hc hk'=>Ja hms hL hall hBt hp ks2 ks _ _ _ (hc.resolve_left Bool.false_ne_true) (hdc.step hr') (fun i hi=>hwt i (List.mem_cons_of_mem _ hi)) hB' hk') h
def ca (l:List Oper)(ks1:List Nat)(p:Nat)(ks2:List Nat):Bool :=
 Ai l.toArray && decide (p<l.length) && ks1.all (fun k=>decide (k<l.length) && (k != p && AK (BE .any l []) p k)) && ks2.all (fun k=>decide (k<l.length)) &&
 (List.range l.length).all (fun j=>j == p || AK (BE .any l []) j p || AK (BE .any l []) p j || ((l[j]?).any ID)) &&
 decide ((ks1++p::ks2).length=l.length) && Cv (BE .any l []) l.toArray (ks1++p::ks2) (Array.replicate l.length false)
theorem CH{N:Nat}{id:Nat}{l:List Oper}{A:AA}{Q:Exit→AA→St→Prop}(ro:Ro)(ks1:List Nat)(p:Nat)(ks2:List Nat){t1 t2:List Oper}(hm:P.follows .mixedOrders=true)(hB:ca l ks1 p ks2=true)(hok:CP N l=true)(h1:CD l (ks1++[p])=t1)(h2:CD l ks2=t2)(hC:AE (some ro) st)
 (h:nes st→W P r (some ro) l.toArray (fun A' st'=>∃ro2,AE (some ro2) st'∧W P r (some ro2) l.toArray (Q .normal) t2 A' st') t1 A st):Tr P N r (.region id l.toArray true) A st Q:=by
 refine Jd fun hne=>?_
 subst h1 h2
 replace h:=h hne
 intro a w hr hh
 simp only[ca,Bool.and_eq_true,decide_eq_true_eq] at hB
 obtain⟨⟨⟨⟨⟨⟨b1,b2⟩,b3⟩,b4⟩,b5⟩,b6⟩,b7⟩:=hB
 have hok':∀(i:Nat) (o:Oper),l.toArray[i]?=some o→EM N o.dst=true∧Cw N l.toArray o=true:=fun i o ho=>by
  have:=List.all_eq_true.1 hok o (by simp at ho;exact List.mem_of_getElem? ho)
  simpa using this
 have he:=Ext.drew (OwnS st) w
 have hms:MOk .any l.toArray.toList (BE .any l []):=Df (md:=.any) l l [] (by simp) (fun k i h=>by simp at h)
 have hdc:DC .any l.toArray (Array.replicate l.length false):=fun k o _ hl=>absurd hl (by rw[DU];exact Bool.false_ne_true)
 have hp:l.toArray[p]?=some l[p]:=by simp[b2]
 have hBt:HG (BE .any l []) l.toArray p:=fun j oj hj hne=>by
  have hjl:j<l.length:=by simpa using (Array.getElem?_eq_some_iff.1 hj).1
  have:=List.all_eq_true.1 b5 j (List.mem_range.2 hjl)
  simp only[Bool.or_eq_true,beq_iff_eq] at this
  rcases this with((h|h)|h)|h
  · exact absurd h hne
  · exact .inl h
  · exact .inr (.inl h)
  · refine .inr (.inr ?_)
    rw[show l[j]?=some oj by simpa using hj] at h
    exact h
 have hk1:∀k∈ks1,k<l.length∧k≠p∧AK (BE .any l []) p k=true:=fun k hk=>by
  have:=List.all_eq_true.1 b3 k hk
  simpa [Bool.and_eq_true] using this
 have hk2:∀k∈ks2,k<l.length:=fun k hk=>of_decide_eq_true (List.all_eq_true.1 b4 k hk)
 have hord:Gx P r ro l.toArray (fun A' st'=>∃ro2,AL ro2 st'∧Gx P r ro2 l.toArray (Q .normal) ks2 A' st') (ks1++[p]) A st:=by
  refine CZ (l:=l) (fun i o ho=>⟨o,by simpa using ho,.refl o⟩) (fun _=>rfl) (fun h=>h) (ks1++[p]) A st (fun k hk=>?_) ?_
  · rcases List.mem_append.1 hk with hk|hk
    · exact(hk1 k hk).1
    · rw[List.mem_singleton.1 hk];exact b2
  · rw[FG]
    refine DY (fun A' st' ⟨ro2,k1,k2⟩=>⟨ro2,k1,?_⟩) _ _ _ h
    refine CZ (l:=l) (fun i o ho=>⟨o,by simpa using ho,.refl o⟩) (fun _=>rfl) (fun h=>h) ks2 A' st' hk2 ?_
    rw[FG]
    exact k2
 have hany:=Ja (P:=P) (r:=r) (ro:=ro) hms (Ol l) b1 hBt hp (Q:=Q .normal) ks2 ks1 (Array.replicate l.length false) A st hC hdc (fun k hk=>(hk1 k hk).2) b7 hord
 rw[b6] at hany
 refine wpIn_region_any hm ?_
 have hsz:l.toArray.size=l.length:=by simp
 rw[hsz]
 exact Dq hms (Ol l) hok' _ _ A st a w.drew _ hC hdc (hr.ext he) (hh.drewN 1) hany fun A' st' a' w' q1 q2 q3 q5=>⟨A',st',q1,q2,he.trans q3,q5⟩
end
end
section
section
variable {P:Program} {st:St} {w w':World}
theorem Mi{b:Nat}{ty:TypeId}{cs cs':List D}{us us':Array Value}(h:Holds (.box b ty cs::st) w)(hb:w.heap[b]?=some (.cells us ty (0,0)))(hs:us'.size=us.size)
 (hdr:w.drawn≤w'.drawn)(ho:w'.os=w.os)(ht:w'.tape=w.tape)(hout:w'.output=w.output)(hsz:w'.heap.size=w.heap.size)(hb':w'.heap[b]?=some (.cells us' ty (0,0)))(hoth:∀k,k≠b→w'.heap[k]?=w.heap[k]?)
 (hr:RepL (OwnS (.box b ty cs::st)) w us'.toList cs')(hl:∀d∈cs',d.leaf=true) :
 Holds (.box b ty cs'::st) w'∧Ext (OwnS (.box b ty cs::st)) w (OwnS (.box b ty cs'::st)) w':=by
 have hown:∀k off,OwnS (.box b ty cs'::st) k off→OwnS (.box b ty cs::st) k off:=fun k off ho=>by
  rw[OwnS.cons_iff] at ho ⊢
  exact ho
 have he:Ext (OwnS (.box b ty cs::st)) w (OwnS (.box b ty cs'::st)) w':=by
  refine⟨hdr,ho,ht,hout,by omega,fun k off _ ho=>hown k off ho,fun k hk hn=>?_,fun k c E fr hk=>?_⟩
  · refine hoth k fun e=>?_
    subst e
    exact hn 0 (OwnS.cons_iff.2 (.inl ⟨rfl,Nat.le_refl _⟩))
  · by_cases e:k=b
    · subst e
      rw[hb] at hk
      cases hk
      exact⟨us',_,hb',hs,fun off hn=>absurd (OwnS.cons_iff.2 (.inl ⟨rfl,Nat.zero_le _⟩)) hn⟩
    · exact⟨c,fr,(hoth k e).trans hk,rfl,fun _ _=>rfl⟩
 refine⟨h.put he (fun x hx k hk=>hoth k fun e=>?_) ⟨⟨us',hb',hr.ext he⟩,hl⟩ (fun x hx=>?_),he⟩
 · subst e
   exact(List.pairwise_cons.1 h.1).1 x hx k rfl hk
 · exact(List.pairwise_cons.1 h.1).1 x hx
theorem Kh{sz:Nat}(zs:List D):∀es:List (List D),(∀e∈es,e.length=sz)→Dv sz es.length (es.flatten++zs)=es
|[],_=>rfl
|e::es,h=>by
  have he:=h e (List.mem_cons_self ..)
  rw[List.length_cons,Dv,List.flatten_cons,List.append_assoc,List.take_left' he,List.drop_left' he,Kh zs es fun x hx=>h x (List.mem_cons_of_mem _ hx)]
theorem TrF.freeze{f:FuncId}{args:List D}{el:TypeId}{es:List (List D)}{sz n:Nat}{s0:St}(h:TrF P f args st fun d st'=>∃g cap zs,d=.ar g 0 n cap∧st'=.box g el (es.flatten++zs)::s0)(hsz:0<sz)(hes:∀e∈es,e.length=sz)(hn:es.length=n):TrF P f args st fun d st'=>d=.sl .shared es∧st'=s0:=by
 intro vs w h1 h2
 refine(h vs w h1 h2).mono fun _ w' ⟨v,ev,d,s,k1,k2,k3,g,cap,zs,e1,e2⟩=>?_
 subst e1 e2
 have hch:Dv sz n ((es.flatten++zs).drop 0)=es:=by
  rw[List.drop_zero,←hn]
  exact Kh zs es hes
 have hr:=Wb .shared (.inl rfl) (sz:=sz) k2 k1 hsz (by rw[List.length_append,Bb hes,hn];omega) (by intro h;cases h)
 rw[hch] at hr
 have he:=Ext.drop (st:=.box g el (es.flatten++zs)::s0) (st':=s0) (fun _ h=>List.mem_cons_of_mem _ h) w'
 exact⟨v,ev,_,s0,hr,k2.sub (List.sublist_cons_self _ _),k3.trans he,rfl,rfl⟩
end
section
variable {P:Program} {N:Nat} {r:Option Nat} {A:AA} {st:St} {Q:Exit→AA→St→Prop} {m:Option Ro} {k:D→St→Prop} {dst:Option Tmp} {ty:TypeId} {pos:String} {aft:Array Edge} {gd:Option (Nat×Bool)} {o:Oper} {w:World}
theorem Hb{t t':TypeId}{x:Operand}{g off n cap:Nat}{q:TypeId×Nat×Nat}(ht:EV P t=some q)(hx:ev A.e x=some (.ar g off n cap))(hk:k (.b false) st):S P r none ⟨dst,.binOp .eql t x (.const (.slice none 0 0)) t',ty,pos,aft,gd⟩ A st k:=by
 refine AU (by intro c hc;cases hc) fun ρ w hr hh=>.inl ?_
 have hv1:=hr _ (by simp[Op.operands]) _ hx
 have hv2:=hr.cst (.slice none 0 0)
 obtain⟨el,sz,bytes⟩:=q
 obtain⟨ti,z,h10,h11⟩:=DZ ht
 obtain⟨hu, -⟩:=(Ap h10).2.2.2.2.1 _ _ _ _ h11
 generalize hxv:ρ x=xv at hv1
 cases hv1 with
|ar _ _ _ _ c1 c2 =>
 refine⟨.bool false,w,?_,_,_,.s (.bool false) rfl,hh,Ext.refl _ _,hk⟩
 unfold execOp
 have hrun:(binOp .eql t (.slice (some ⟨g,off,none⟩) n cap) (.slice none 0 0)).run P w=.ok (.bool false) w:=by
  simp only[binOp]
  simp[run_equal_slice_nil w t el (some ⟨g,off,none⟩) n cap hu]
 simp only[hxv,hv2,Sem.run_bind,AP .eql t x (.const (.slice none 0 0)) (.slice (some ⟨g,off,none⟩) n cap) (.slice none 0 0) (fun u=>by simp) (fun u v=>by simp),hrun,Result.andThen_ok,Sem.run_pure]
def dj (P:Program)(m:Option Ro)(t:TypeId)(p:D×D)(st:St)(k:D→St→Prop):Prop :=
 ∃(el:TypeId) (sz bytes:Nat) (g n cap:Nat) (ds zs:List D),p=(.sl .tight [],.ar g 0 n cap)∧Mq P t=some (el,sz,bytes)∧Res.box g el (ds++zs)∈st∧ds.length=n*sz∧0<n∧n*bytes≤140737488355328∧n≤140737488355328 ∧
  ∀g' cap' zs',n≤cap'→(ds++zs').length=cap'*sz→AE m (.box g' el (ds++zs')::st)∧k (.ar g' 0 n cap') (.box g' el (ds++zs')::st)
theorem Mo{t:TypeId}{x y:Operand}(h:Ev (DP (ev A.e x) (ev A.e y)) fun p=>dj P m t p st k):S P r m ⟨dst,.call ⟨.builtin .append,#[x,y],#[t,t]⟩,ty,pos,aft,gd⟩ A st k:=by
 obtain⟨p,h1,el,sz,bytes,g,n,cap,ds,zs,rfl,h2,hm,hds,hpos,h7,h8,h9⟩:=h
 unfold DP at h1
 split at h1
 · rename_i d d' hx hy
   cases h1
   refine Bk (R:=fun d st'=>∃g' cap' zs',n≤cap'∧(ds++zs').length=cap'*sz∧d=.ar g' 0 n cap'∧st'=.box g' el (ds++zs')::st) rfl ?_ ⟨_,_,0,n,[],Nat.le_refl _,by rw[List.append_nil,hds],rfl,rfl⟩ fun d st' ⟨g',cap',zs',ha,hb,e1,e2⟩=>by subst e1 e2;exact h9 g' cap' zs' ha hb
   refine AU (by intro c hc;cases hc) fun ρ w hr hh=>.inl ?_
   have v1:=hr _ (by simp[Op.operands,Call.operands]) _ hx
   have v2:=hr _ (by simp[Op.operands,Call.operands]) _ hy
   obtain⟨q1,i,zv,q2,q3,q4,q5,rfl,rfl,q8⟩:=Ia h2
   unfold execOp
   simp only[resolve,invoke,builtin,Sem.run_bind,Sem.run_pure,Result.andThen_ok,List.map_toArray,List.map_cons,List.map_nil]
   generalize ρ x=xv at v1
   generalize ρ y=yv at v2
   cases v2 with
   | ar _ _ _ _ c1 c2 =>
   obtain⟨⟨us,hb,hrr⟩,hlc⟩:=hh.2 _ hm
   have hul:=hrr.1
   rw[List.length_append] at hul
   have hrep:RepL (OwnS st) w (us.toList.take (n*i.size)) ds:=by
    have:=hrr.take (n*i.size)
    rwa[List.take_append_of_le_length q_o,List.take_of_length_le (l:=ds) q_o] at this
   obtain⟨w',g',cap',zs',e1,e2,e3,e4,e5,e6⟩:=Fp (P:=P) t ty el q1 q2 q3 q4 q5 q8 hh v1 (xad:=⟨g,0,none⟩) (m:=n) (xcap:=cap) (by rw[List.length_take];omega) (fun j u hu=>by
    rw[Bu,Nat.zero_add,cell_of_row w g j us el (0,0) hb]
    rw[List.getElem?_take] at hu
    split at hu
    · rw[←hu];simp
    · cases hu) hrep (fun d hd=>hlc d (List.mem_append_left _ hd)) hpos h7 h8
   rw[e1]
   exact⟨_,w',rfl,_,_,.ar g' 0 _ cap' e2 e3,e5,e6,g',cap',zs',e2,e4,rfl,rfl⟩
 · cases h1
def Zr (m:Option Ro)(q:TypeId×Nat×Nat)(p:D×D)(st:St)(k:D→St→Prop):Prop :=
 ∃(g n cap:Nat) (ds zs:List D),p=(.sl .tight [],.ar g 0 n cap)∧Res.box g q.1 (ds++zs)∈st∧ds.length=n*q.2.1∧0<n∧n*q.2.2≤140737488355328∧n≤140737488355328 ∧
  ∀g' cap' zs',n≤cap'→(ds++zs').length=cap'*q.2.1→AE m (.box g' q.1 (ds++zs')::st)∧k (.ar g' 0 n cap') (.box g' q.1 (ds++zs')::st)
theorem QN{t:TypeId}{p:D×D}(h:Ev (Mq P t) fun q=>Zr m q p st k):dj P m t p st k:=by
 obtain⟨⟨el,sz,bytes⟩,h1,g,n,cap,ds,zs,h2,h3,h4,h5,h6,h7,h8⟩:=h
 exact⟨el,sz,bytes,g,n,cap,ds,zs,h2,h1,h3,h4,h5,h6,h7,h8⟩
theorem Mv{el:TypeId}{sz bytes g n cap:Nat}{ds zs:List D}(h3:Res.box g el (ds++zs)∈st)(h4:ds.length=n*sz)(h5:0<n)(h6:n*bytes≤140737488355328)(h7:n≤140737488355328)
 (h8:∀g' cap' zs',n≤cap'→(ds++zs').length=cap'*sz→AE m (.box g' el (ds++zs')::st)∧k (.ar g' 0 n cap') (.box g' el (ds++zs')::st)):Zr m (el,sz,bytes) (.sl .tight [],.ar g 0 n cap) st k:=⟨g,n,cap,ds,zs,rfl,h3,h4,h5,h6,h7,h8⟩
end
section
variable {P:Program} {f:FuncId} {ds ds':List D} {st s1:St} {m:Option Ro} {k:D→St→Prop}
theorem Br{R:D→St→Prop}(henter:∀args w,(callFunc f args).run P w=.ok (.enter f args) w)(hp:st.Perm s1)(h:TrF P f ds' s1 R)(hle:LEL ds ds')(hex:∃d st',R d st')(hk:∀d st',R d st'→AE m st'∧k d st'):Gw P m (f,ds) st k :=
 ⟨R,henter,(TrF.perm hp h).le hle,hex,hk⟩
end
end
section
attribute [local push_cast] Ad Ae Ao V.cells_mk V.cells_len Nat.mul_one Int.sub_zero List.map_nil beq_self_eq_true
def AY (l:List Nat):List D:=(l.map Ao).flatten
theorem Cs(l:List Nat):(AY l).length=l.length*1:=by
 unfold AY
 rw[Bb (sz:=1) fun e he=>by
  obtain⟨x, -,rfl⟩:=List.mem_map.1 he
  rfl,List.length_map]
def AH (l:List Sl):List D:=(l.map Sl.cells).flatten
theorem BJ(l:List Sl):(AH l).length=l.length*7:=by
 unfold AH
 rw[Bb (sz:=7) fun e he=>by
  obtain⟨x, -,rfl⟩:=List.mem_map.1 he
  exact Sl.cells_len x,List.length_map]
theorem YD(g cap:Nat)(l:List Nat)(zs:List D)(hl:l≠[])(h8:l.length≤1000000)(st:St)(hm:Res.box g 3 (AY l++zs)∈st):TrF Tryz.prog 89 [.ar g 0 l.length cap] st fun d st'=>d=.sl .shared (l.map Ao)∧st'=st:=by
 have hcl:=Cs l
 have hpos:0<l.length:=List.length_pos_iff.2 hl
 refine TrF.freeze (el:=3) (sz:=1) (n:=l.length) ?_ (by decide) (fun e he=>by
  obtain⟨x, -,rfl⟩:=List.mem_map.1 he
  rfl) (List.length_map ..)
 show TrF _ _ _ _ fun d st'=>∃g' cap' zs',d=.ar g' 0 l.length cap'∧st'=.box g' _ (AY l++zs')::st
 generalize AY l=R at *
 generalize l.length=n at *
 refine Qin [2] Tryz.func89 Tryz.results89 Tryz.ntmps89 ?_
 repeat' (first|refine QV ?_|((with_reducible apply Hb);(focus simp(disch:=omega) only[push_cast,simprocAttr, *];exact rfl);(focus simp(disch:=omega) only[push_cast,simprocAttr, *];exact rfl))|with_reducible refine Mo ?_|with_reducible refine QN ?_|((with_reducible apply(Mv hm));(focus assumption);(focus assumption);(focus omega);(focus omega);intro g' cap' zs' hc hl')|refine QY ?_|(refine QB ?_;intro b)|(with_reducible refine QZ ?_<;>(try constructor)<;>intro hb<;>try intro hb1)|fail)
 all_goals(refine Ab q_x rfl (List.Sublist.refl _) (LE.of_eq ?_) ⟨g',cap',zs',rfl,rfl⟩;simp(disch:=omega) only[push_cast,simprocAttr, *])
theorem YB(g cap:Nat)(l:List Sl)(zs:List D)(hl:l≠[])(h8:l.length≤1000000)(st:St)(hm:Res.box g 184 (AH l++zs)∈st):TrF Tryz.prog 185 [.ar g 0 l.length cap] st fun d st'=>d=.sl .shared (l.map Sl.cells)∧st'=st:=by
 have hcl:=BJ l
 have hpos:0<l.length:=List.length_pos_iff.2 hl
 refine TrF.freeze (el:=184) (sz:=7) (n:=l.length) ?_ (by decide) (fun e he=>by
  obtain⟨x, -,rfl⟩:=List.mem_map.1 he
  exact Sl.cells_len x) (List.length_map ..)
 show TrF _ _ _ _ fun d st'=>∃g' cap' zs',d=.ar g' 0 l.length cap'∧st'=.box g' _ (AH l++zs')::st
 generalize AH l=R at *
 generalize l.length=n at *
 refine Qin [2] Tryz.func185 Tryz.results185 Tryz.ntmps185 ?_
 repeat' (first|refine QV ?_|((with_reducible apply Hb);(focus simp(disch:=omega) only[push_cast,simprocAttr, *];exact rfl);(focus simp(disch:=omega) only[push_cast,simprocAttr, *];exact rfl))|with_reducible refine Mo ?_|with_reducible refine QN ?_|((with_reducible apply(Mv hm));(focus assumption);(focus assumption);(focus omega);(focus omega);intro g' cap' zs' hc hl')|refine QY ?_|(refine QB ?_;intro b)|(with_reducible refine QZ ?_<;>(try constructor)<;>intro hb<;>try intro hb1)|fail)
 all_goals(refine Ab q_x rfl (List.Sublist.refl _) (LE.of_eq ?_) ⟨g',cap',zs',rfl,rfl⟩;simp(disch:=omega) only[push_cast,simprocAttr, *])
theorem TR(o:Own)(l:List Nat)(x:Nat)(st:St):TrF Tryz.prog 205 [.sl o (l.map Ao),.i x] st fun d st'=>d=.b (decide (x∈l))∧st'=st :=
 Uz fun vs w hv=>by
  obtain⟨v,v',rfl,h1,h2⟩:=cX hv
  cases AX h2
  have hs:Sees (fun n:Nat=>Value.int .i64 n) w v l:=Ni (f:=fun n:Nat=>Value.int .i64 n) h1
  refine⟨_,fun _ _=>.s _ rfl,?_⟩
  obtain⟨a,cap,rfl,q1,q2,q3,q4⟩:=hs
  cases l with
  | nil =>
   refine(Tryz.slices_Contains_int_empty a cap x w).mono ?_
   rintro e w' ⟨he,rfl⟩
   exact⟨he,Below.refl _ _,Nat.le_refl _⟩
  | cons y r =>
   obtain⟨b,rfl⟩:∃b,a=some b:=by
    cases a with
    | none=>have:=q3 rfl;simp at q1;omega
    | some b=>exact⟨b,rfl⟩
   obtain⟨e1,e2,e3⟩:=q4 b rfl (by simp)
   obtain⟨bk,off,sp⟩:=b
   dsimp only at e1 e2 e3
   subst e1
   have hc:=Tryz.slices_Contains_int bk off (y::r).length cap ((y::r).map Int.ofNat) x w (by simp) (by unfold maxLen at q2;omega) (fun j hj=>by
    rw[List.length_map] at hj
    rw[e3 j hj,List.getD_eq_getElem?_getD,List.getElem?_map,List.getElem?_eq_getElem hj];rfl)
   refine hc.mono ?_
   rintro e w' ⟨he,rfl⟩
   refine⟨?_,Below.refl _ _,Nat.le_refl _⟩
   rw[he]
   congr 2
   rw[List.take_of_length_le (by simp),Bool.eq_iff_iff,List.contains_iff_mem,decide_eq_true_eq,List.mem_map]
   constructor
   · rintro⟨a,h1,h2⟩
     have:a=x:=Int.ofNat.inj h2
     exact this▸h1
   · intro h;exact⟨x,h,rfl⟩
theorem Yy(g cap i:Nat)(l:List Nat)(zs:List D)(hi:i<l.length)(hzs:(AY l++zs).length=cap*1)(st:St):TrF Tryz.prog 204 [.ar g 0 l.length cap,.i i,.i ((i:Int)+1)] (.box g 3 (AY l++zs)::st) fun d st'=>d=.ar g 0 (l.eraseIdx i).length cap∧st'=.box g 3 (AY (l.eraseIdx i)++(.i 0::zs))::st:=by
 intro vs w hv hh
 obtain⟨lv⟩:=vs
 obtain⟨v0,t0,e0,h1,hv⟩:=hv.inv_cons
 obtain⟨v1,t1,e1,h2,hv⟩:=hv.inv_cons
 obtain⟨v2,t2,e2,h3,hv⟩:=hv.inv_cons
 have e3:=hv.inv_nil
 dsimp only at e0
 subst e3 e2 e1 e0
 cases AX h2
 cases AX h3
 have hh1:=h1
 cases h1 with
|ar _ _ _ _ c1 c2 =>
 obtain⟨⟨us,hb,hr⟩,hlc⟩:=hh.2 _ (List.mem_cons_self ..)
 have hul:=hr.1
 have hcl:=Cs l
 rw[List.length_append] at hul
 have hcm:∀l:List Nat,AY l=l.map fun c:Nat=>D.i c:=by
  intro l
  unfold AY
  induction l with
  | nil=>rfl
  | cons x l ih=>rw[List.map_cons,List.flatten_cons,ih];rfl
 have hat:∀j (hj:j<l.length),us[j]?=some (.int .i64 (l[j]:Nat)):=fun j hj=>by
  have hd:(AY l++zs)[j]?=some (.i (l[j]:Nat)):=by
   rw[List.getElem?_append_left q_o,hcm,List.getElem?_map,List.getElem?_eq_getElem hj];rfl
  obtain⟨u,hu,hru⟩:=hr.get? hd
  rw[AX hru] at hu
  rw[←hu];simp
 have hH:Sort.Holds (Value.int .i64) w g 0 ((l.map Int.ofNat).toArray):=fun j hj=>by
  have hj':j<l.length:=by simpa using hj
  refine⟨?_,?_⟩
  · rw[Nat.zero_add,cell_of_row w g j us _ (0,0) hb,hat j hj',getElem!_pos _ j hj]
    simp
  · unfold World.frozen?
    dsimp only
    rw[hb];simp
 have hc:=Tryz.slices_Delete_int g 0 cap i (i+1) (l.map Int.ofNat) w hH (by simpa using c1) (by unfold maxLen at c2;omega) q_o (by rw[List.length_map];omega)
 rw[List.length_map] at hc
 have hcast:((i+1:Nat):Int)=(i:Int)+1:=by omega
 rw[hcast] at hc
 refine hc.mono ?_
 rintro e w' ⟨rfl,q,hw⟩
 refine⟨_,rfl,?_⟩
 obtain⟨d',hd'⟩:∃d',((l.map Int.ofNat).take i++(l.map Int.ofNat).drop (i+1)++List.replicate (i+1 - i) 0)=d':=⟨_,rfl⟩
 rw[hd'] at hw
 have hdl:d'.length=l.length:=by
  rw[←hd']
  simp only[List.length_append,List.length_take,List.length_drop,List.length_map,List.length_replicate]
  omega
 have hus:(Sort.putCells (Value.int .i64) 0 d'.toArray us).toList=d'.map (Value.int .i64)++us.toList.drop l.length:=by
  apply List.ext_getElem?
  intro k
  unfold Sort.putCells
  rw[Array.getElem?_toList,Array.getElem?_mapIdx]
  by_cases hk:k<l.length
  · have hk2:k<us.size:=by rw[←Array.length_toList];omega
    rw[List.getElem?_append_left (by rw[List.length_map];omega),Array.getElem?_eq_getElem hk2,List.getElem?_map,List.getElem?_eq_getElem (by omega:k<d'.length)]
    simp only[Option.map_some,Nat.zero_le,Nat.zero_add,List.size_toArray,hdl,hk,and_self,if_true,Nat.sub_zero,true_and]
    rw[getElem!_pos _ k (by simp;omega)]
    simp
  · rw[List.getElem?_append_right (by rw[List.length_map];omega),List.length_map,hdl,List.getElem?_drop,show l.length+(k - l.length)=k by omega,Array.getElem?_toList]
    cases us[k]? with
    | none=>rfl
    | some u=>simp[hdl,hk]
 have hrep:RepL (OwnS (.box g 3 (AY l++zs)::st)) w (Sort.putCells (Value.int .i64) 0 d'.toArray us).toList (AY (l.eraseIdx i)++(.i 0::zs)):=by
  rw[hus,show AY (l.eraseIdx i)++(.i 0::zs)=(d'.map fun n=>D.i n)++zs by
   rw[←hd',hcm,List.eraseIdx_eq_take_drop_succ,show i+1 - i=1 by omega]
   simp only[List.map_append,List.map_take,List.map_drop,List.map_map,List.append_assoc,List.replicate,List.map_cons,List.map_nil,List.cons_append,List.nil_append]
   rfl]
  refine RepL.append (RepL.map fun x _=>.s _ rfl) ?_
  have:=hr.drop l.length
  rwa[List.drop_append,List.drop_of_length_le (l:=AY l) q_o,List.nil_append,show l.length - (AY l).length=0 by omega,List.drop_zero] at this
 have hw':w'.heap[g]?=some (.cells (Sort.putCells (Value.int .i64) 0 d'.toArray us) 3 (0,0)):=by
  rw[hw]
  simp only[Sort.putRow,Sort.mapBlock,Sort.ahead]
  rw[Array.getElem?_modify]
  simp[hb,Sort.onCells]
 have hs:=Mi (w':=w') hh hb (by simp[Sort.putCells]) (by rw[hw];first|exact Nat.le_add_right _ _|simp[Sort.putRow,Sort.mapBlock,Sort.ahead]) (by rw[hw];rfl) (by rw[hw];rfl) (by rw[hw];rfl) (by rw[hw];simp[Sort.putRow,Sort.mapBlock,Sort.ahead]) hw' (fun k hk=>by
  rw[hw]
  simp only[Sort.putRow,Sort.mapBlock,Sort.ahead]
  rw[Array.getElem?_modify,if_neg (Ne.symm hk)]) hrep (fun d hd=>by
   rw[hcm,List.mem_append] at hd
   rcases hd with hd|hd
   · obtain⟨c, -,rfl⟩:=List.mem_map.1 hd;rfl
   · rcases List.mem_cons.1 hd with rfl|hd
     · rfl
     · exact hlc d (List.mem_append_right _ hd))
 have hel:(l.eraseIdx i).length=l.length - (i+1 - i):=by rw[List.length_eraseIdx_of_lt hi];omega
 refine⟨.ar g 0 (l.eraseIdx i).length cap,_,?_,hs.1,hs.2,rfl,rfl⟩
 rw[hel]
 exact .ar g 0 _ cap q_o c2
theorem KK(t:Int)(st:St):TrF Tryz.prog 201 [.i t] st fun x st'=>x=.b (Sch.takes t)∧st'=st:=by
 unfold Sch.takes
 refine Qin [2] Tryz.func201 Tryz.results201 Tryz.ntmps201 ?_
 repeat' (first|refine QX ?_|(refine QB ?_;intro b)|(with_reducible refine QZ ?_<;>(try constructor)<;>intro hb<;>try intro hb1)|fail)
 all_goals(refine Ar (hd:=?_);(try simp(disch:=omega) only[push_cast,simprocAttr, *]);try(first|exact q_e|refine LE.of_eq ?_))
 all_goals(first|rfl|(refine congrArg D.b ?_;rw[Bool.eq_iff_iff];simp only[Bool.true_and,Bool.false_and,Bool.and_true,Bool.and_false,Bool.or_false,Bool.or_true,Bool.true_or,Bool.false_or,true_and,and_true,Bool.not_eq_true',Bool.not_eq_false',decide_eq_true_eq,decide_eq_false_iff_not,beq_iff_eq,beq_eq_false_iff_ne,bne_iff_ne,ne_eq,reduceCtorEq,iff_true,true_iff,iff_false,false_iff,Bool.and_eq_true,Bool.or_eq_true,Bool.false_eq_true,Bool.true_eq_false];first|done|omega))
theorem Nl(nm:ByteArray)(ty:Int)(rq:Bool)(dv v:V)(hB:v.nodes≤4611686018427387904)(st:St):TrF Tryz.prog 182 [.agg (Sl.mk nm ty rq dv).cells,.agg v.cells] st fun x st'=>x=.b (Sch.fits (Sl.mk nm ty rq dv) v)∧st'=st:=by
 have hR:=Kz v hB
 unfold Sch.fits
 cases hr:v.right with
|false =>
  rw[hr] at hR
  cases v with
  | mk k n s l =>
  cases dv with
  | mk dk dn ds dl =>
  rw[V.cells_mk] at hR
  rw[Sl.cells_mk,V.cells_mk]
  replace hR:=Lib.hid hR
  refine Qin [4] Tryz.func182 Tryz.results182 Tryz.ntmps182 ?_
  exact WR
|true =>
  rw[hr] at hR
  cases v with
  | mk k n s l =>
  cases dv with
  | mk dk dn ds dl =>
  have hk:0≤k∧k≤5:=by
   have:=(V.right_iff.1 hr).1
   rw[V.parts,Bool.and_eq_true,Bool.and_eq_true] at this
   have:=this.1.1
   unfold V.sgl at this
   repeat' split at this
   all_goals(first|omega|exact absurd this (by decide))
  obtain⟨hk1,hk2⟩:=hk
  rw[V.cells_mk] at hR
  rw[Sl.cells_mk,V.cells_mk]
  replace hR:=Lib.hid hR
  unfold Sch.bit
  clear hr
  refine Qin [4] Tryz.func182 Tryz.results182 Tryz.ntmps182 ?_
  exact WR
theorem KL(s:Sl)(hB:s.dv.nodes≤4611686018427387904)(st:St):TrF Tryz.prog 183 [.agg s.cells] st fun x st'=>x=.b (Sch.sound s)∧st'=st:=by
 have hN:=Lib.hid (DH s.name)
 have hT:=Lib.hid (KK s.types)
 have hF:=Nl s.name s.types s.req s.dv s.dv hB
 unfold Sch.sound
 cases s with
|mk nm ty rq dv =>
 dsimp only at hN hT hF ⊢
 generalize V.isName nm.data.toList=q1 at *
 generalize Sch.takes ty=q2 at *
 generalize Sch.fits (Sl.mk nm ty rq dv) dv=q3 at *
 cases dv with
|mk k n s l =>
 rw[Sl.cells_mk,V.cells_mk] at hF
 rw[Sl.cells_mk]
 replace hF:=Lib.hid hF
 cases q1<;>cases q2<;>cases q3
 all_goals skip
 all_goals(
  refine Qin [2] Tryz.func183 Tryz.results183 Tryz.ntmps183 ?_
  exact WR)
theorem GY(s:Sl)(b1 b2:Bool)(hB:s.dv.Bg)(st:St):TrF Tryz.prog 203 [.agg s.cells,.b b1,.b b2] st fun x st'=>x=.b (Sch.bare s b1 b2)∧st'=st:=by
 have hS:=GO s.dv Sch.zeroV hB (.mk (Nat.zero_le _) (Nat.zero_le _) fun x h=>by cases h)
 unfold Sch.bare
 cases s with
|mk nm ty rq dv =>
 dsimp only at hS ⊢
 have hE:=Es nm
 generalize decide (nm.size=0)=q1 at *
 generalize (dv.cmp Sch.zeroV == 0)=q3 at *
 unfold Sch.zeroV at hS
 cases dv with
|mk k n s l =>
 rw[V.cells_mk,V.cells_mk,List.map_nil] at hS
 rw[Sl.cells_mk]
 replace hS:=Lib.hid hS
 obtain⟨q2,h2⟩:∃q2,(ty == 0)=q2:=⟨_,rfl⟩
 rw[h2]
 refine Qin [6] Tryz.func203 Tryz.results203 Tryz.ntmps203 ?_
 cases b1<;>cases b2<;>cases q1<;>cases q2<;>cases rq
 all_goals skip
 all_goals(
  repeat' (first|refine QX ?_|(refine QB ?_;intro b)|(with_reducible refine QZ ?_<;>(try constructor)<;>intro hb<;>try intro hb1)|refine QL Tryz.call126 (hS.out _) ?_|fail)
  all_goals exact Ar)
theorem TT{slots:List Sl}{name:ByteArray}{cols:List Nat}{i c:Nat}(h:cols[i]?=some c):Sch.colL slots name (cols.drop i)=if Sch.named slots name c then(c:Int) else Sch.colL slots name (cols.drop (i+1)):=by
 obtain⟨h1,rfl⟩:=List.getElem?_eq_some_iff.1 h
 rw[List.drop_eq_getElem_cons h1,Sch.colL]
theorem Mk(slots:List Sl)(cols:List Nat)(name:ByteArray)(hl:slots.length≤1000000)(hc:cols.length≤1000000)(st:St):TrF Tryz.prog 184 [.agg [.sl .shared (slots.map Sl.cells),.sl .shared (cols.map Ao)],.str name] st fun x st'=>x=.i (Sch.colL slots name cols)∧st'=st:=by
 obtain⟨B,hB⟩:∃B,Sch.colL slots name cols=B:=⟨_,rfl⟩
 have HB:Hid (Sch.colL slots name (cols.drop 0)=B):=hB
 rw[hB]
 clear hB
 refine Qin [4] Tryz.func184 Tryz.results184 Tryz.ntmps184 ?_
 repeat' (first|refine QX ?_|(refine QB ?_;intro b)|(with_reducible refine QZ ?_<;>(try constructor)<;>intro hb<;>try intro hb1)|fail)
 refine Bq (ι:=Nat) (fun i A st'=>i≤cols.length∧Hid (Sch.colL slots name (cols.drop i)=B)∧A.df=[]∧A.e 1=.str name∧A.e 2=.ip [.sl .shared (slots.map Sl.cells),.sl .shared (cols.map Ao)]∧A.e 8=.sl .shared (cols.map Ao)∧A.e 9=.i cols.length∧A.e 10=.i i∧st=st') (fun i=>cols.length - i) 0 ⟨Nat.zero_le _,HB,Qf,Qf,Qf,Qf,Qf,Qf,rfl⟩ ?_
 rintro i A st' ⟨hi,HT,hdf,e1,e2,e8,e9,e10,rfl⟩
 by_cases hlt:i<cols.length
 · obtain⟨c,hx⟩:=gEx hlt
   have HE:=HT.out
   rw[TT hx] at HE
   clear HT HB
   by_cases hcs:c<slots.length
   · obtain⟨s,hs⟩:=gEx hcs
     cases s with
     | mk nm ty rq dv =>
     cases dv with
     | mk k n sv l =>
     obtain⟨q,hq⟩:∃q,(nm.toList == name.toList)=q:=⟨_,rfl⟩
     have hnm:Sch.named slots name c=q:=by
      unfold Sch.named
      rw[hs,←hq];rfl
     rw[hnm] at HE
     clear hnm
     have hcell:(slots.map Sl.cells)[c]?=some [.str nm,.i ty,.b rq,.i k,.i n,.str sv,.sl .shared (l.map V.cells)]:=by
      rw[List.getElem?_map,hs,←Sl.cells_mk];rfl
     clear hs
     have hsl:(slots.map Sl.cells).length=slots.length:=List.length_map ..
     generalize slots.map Sl.cells=SL at *
     cases q with
     | true =>
      rw[if_pos rfl] at HE
      rw[←HE]
      clear HE
      exact WR
     | false =>
      rw[if_neg (by decide)] at HE
      replace HE:=Lib.hid HE
      repeat' (first|refine QX ?_|(refine QB ?_;intro b)|(with_reducible refine QZ ?_<;>(try constructor)<;>intro hb<;>try intro hb1)|fail)
      refine⟨i+1,⟨hlt,HE,?_,?_,?_,?_,?_,?_,rfl⟩,?_⟩
      all_goals exact Qf
   · have hnm : Sch.named slots name c = false := by
      unfold Sch.named
      rw[List.getElem?_eq_none q_o];rfl
     rw[hnm,if_neg (by decide)] at HE
     replace HE:=Lib.hid HE
     clear hnm
     repeat' (first|refine QX ?_|(refine QB ?_;intro b)|(with_reducible refine QZ ?_<;>(try constructor)<;>intro hb<;>try intro hb1)|fail)
     refine⟨i+1,⟨hlt,HE,?_,?_,?_,?_,?_,?_,rfl⟩,?_⟩
     all_goals exact Qf
 · have HE:=HT.out
   rw[List.drop_of_length_le q_o,Sch.colL] at HE
   rw[←HE]
   clear HE HT HB
   exact WR
theorem GD(x:Vr)(s:Stp)(st:St)(ho:s.order.length≤9223372036854775807)(hc:x.cols.length≤1000000):TrF Tryz.prog 202 [.ip x.cells,.agg s.cells] st fun d st'=>d=.b (Sch.column x s)∧st'=st:=by
 unfold Sch.column Vr.cells Stp.cells
 cases s with
|mk kd col slot order =>
 cases slot with
|mk nm ty rq dv =>
 cases dv with
|mk k n sv l =>
 rw[Sl.cells_mk]
 dsimp only[List.cons_append,List.nil_append] at ho ⊢
 refine Qin [4] Tryz.func202 Tryz.results202 Tryz.ntmps202 ?_
 repeat' (first|refine QX ?_|(refine QB ?_;intro b)|(with_reducible refine QZ ?_<;>(try constructor)<;>intro hb<;>try intro hb1)|fail)
 all_goals(refine Ar (hd:=?_);(try simp(disch:=omega) only[push_cast,simprocAttr, *]);try(first|exact q_e|refine LE.of_eq ?_))
 all_goals(first|rfl|(refine congrArg D.b ?_;rw[Bool.eq_iff_iff];simp only[Bool.true_and,Bool.false_and,Bool.and_true,Bool.and_false,Bool.or_false,Bool.or_true,Bool.true_or,Bool.false_or,true_and,and_true,Bool.not_eq_true',Bool.not_eq_false',decide_eq_true_eq,decide_eq_false_iff_not,beq_iff_eq,beq_eq_false_iff_ne,bne_iff_ne,ne_eq,reduceCtorEq,iff_true,true_iff,iff_false,false_iff,Bool.and_eq_true,Bool.or_eq_true,Bool.false_eq_true,Bool.true_eq_false];first|done|omega))
abbrev VB (bx gs cS:Nat)(zS:List D)(gc cC:Nat)(zC:List D)(x:Vr)(s:St):St :=
 .box bx 146 [.ar gs 0 x.slots.length cS,.ar gc 0 x.cols.length cC]::.box gs 184 (AH x.slots++zS)::.box gc 3 (AY x.cols++zC)::s
def VL (cS:Nat)(zS:List D)(cC:Nat)(zC:List D)(x:Vr):Prop:=(AH x.slots++zS).length=cS*7∧(AY x.cols++zC).length=cC*1
structure VW (x:Vr):Prop where
 ls:x.slots.length≤1000
 lc:x.cols.length≤8
 cs:∀c∈x.cols,c<x.slots.length
def Stp.Ok (s:Stp):Prop:=s.slot.dv.nodes≤1000∧s.slot.dv.Bg∧s.order.length≤1000
theorem DJ(x:Vr):(x.slots.map Sl.cells).flatten=AH x.slots:=rfl
theorem DF(x:Vr):(x.cols.map Ao).flatten=AY x.cols:=rfl
theorem BQ(l:List Sl):∀e∈l.map Sl.cells,e.length=7:=fun e he=>by
 obtain⟨x, -,rfl⟩:=List.mem_map.1 he
 exact Sl.cells_len x
theorem BX(l:List Nat):∀e∈l.map Ao,e.length=1:=fun e he=>by
 obtain⟨x, -,rfl⟩:=List.mem_map.1 he
 rfl
def CR (F:Vr→Stp→Option Vr)(x:Vr)(stp:Stp)(bx:Nat)(s:St)(d:D)(st':St):Prop :=
 (F x stp=none∧d=.b false∧st'=s)∨∃x' gs cS zS gc cC zC,F x stp=some x'∧VL cS zS cC zC x'∧d=.b true∧st'=VB bx gs cS zS gc cC zC x' s
theorem KJ(l:List Sl)(s:Sl):AH (l++[s])=AH l++[s.cells].flatten:=by
 unfold AH;simp
theorem Kd(l:List Nat)(c:Nat):AY (l++[c])=AY l++[[D.i c]].flatten:=by
 unfold AY;simp[Ao]
theorem Xn(bx gs cS gc cC:Nat)(zS zC:List D)(x:Vr)(stp:Stp)(hx:VW x)(hs:stp.Ok)(hz:VL cS zS cC zC x)(s:St):TrF Tryz.prog 186 [.ptr bx 0,.agg stp.cells] (VB bx gs cS zS gc cC zC x s) (CR Sch.addS x stp bx s):=by
 obtain⟨ls,lc, -⟩:=hx
 obtain⟨hn, -,ho⟩:=hs
 obtain⟨hz1,hz2⟩:=hz
 have hS:=KL stp.slot q_o
 have hC:=Mk x.slots x.cols stp.slot.name q_o q_o []
 have hr1:=BJ x.slots
 have hr2:=Cs x.cols
 have e1:=Lib.hid (BQ x.slots)
 have e2:=Lib.hid (BX x.cols)
 have f1:=Lib.hid (DJ x)
 have f2:=Lib.hid (DF x)
 have l1:Hid ((x.slots.map Sl.cells).length=x.slots.length):=List.length_map ..
 have l2:Hid ((x.cols.map Ao).length=x.cols.length):=List.length_map ..
 have g1:=Lib.hid (KJ x.slots stp.slot)
 have g2:=Lib.hid (Kd x.cols x.slots.length)
 have g3:Hid ((x.slots++[stp.slot]).length=x.slots.length+1):=List.length_append
 have g4:Hid ((x.cols++[x.slots.length]).length=x.cols.length+1):=List.length_append
 obtain⟨x',hx'⟩:∃x':Vr,x'=⟨x.slots++[stp.slot],x.cols++[x.slots.length]⟩:=⟨_,rfl⟩
 have hF:Hid (Sch.addS x stp=if stp.col=0∧stp.order.length=0∧x.cols.length<8∧Sch.sound stp.slot=true∧stp.slot.req=false∧Sch.colL x.slots stp.slot.name x.cols<0 then some x' else none):=by rw[hx'];rfl
 have s1:Hid (x'.slots=x.slots++[stp.slot]):=by rw[hx'];rfl
 have s2:Hid (x'.cols=x.cols++[x.slots.length]):=by rw[hx'];rfl
 clear hx'
 unfold CR VL VB Stp.cells
 generalize Sch.addS x stp=F at *
 cases stp with
|mk kd col slot order =>
 cases slot with
|mk nm ty rq dv =>
 cases dv with
|mk k n sv l =>
 dsimp only at hS hC ho hF ⊢
 generalize Sch.sound _=q at *
 generalize Sch.colL _ _ _=cv at *
 generalize AH x.slots=R1 at *
 generalize AY x.cols=R2 at *
 generalize x.slots.map Sl.cells=L1 at *
 generalize x.cols.map Ao=L2 at *
 rw[Sl.cells_mk] at *
 dsimp only[List.cons_append,List.nil_append] at ho ⊢
 generalize x.slots.length=m1 at *
 generalize x.cols.length=m2 at *
 replace hS:=Lib.hid hS
 replace hC:=Lib.hid hC
 refine Qin [4] Tryz.func186 Tryz.results186 Tryz.ntmps186 ?_
 repeat' (first|refine QV ?_|((with_reducible refine Cm [(bx,[.ar gs 0 m1 cS,.ar gc 0 m2 cC])] ?_ ?_ ?_ ?_ ?_);(iterate 3 (focus kernel_rfl));(focus((repeat(first|exact An|refine Aw q_m ?_));done)))|((with_reducible refine And.intro ?_ ?_);(focus exact q_k))|((with_reducible refine Cm [(bx,[.ar gs 0 m1 cS,.ar gc' 0 (m2+1) cC'])] ?_ ?_ ?_ ?_ ?_);(iterate 3 (focus kernel_rfl));(focus((repeat(first|exact An|refine Aw q_m ?_));done)))|((with_reducible refine And.intro ?_ ?_);(focus exact q_k))|with_reducible refine DK ?_|with_reducible refine FD ?_|((with_reducible apply(DN hr1 hz1));(focus(intro g' cs';repeat(first|exact Dl|apply Dk)));(focus exact AF rfl);(focus exact q_n);(focus exact q_n);intro gs' cS' zS' hcs hls)|((with_reducible apply(DN hr2 hz2));(focus(intro g' cs';repeat(first|exact Dl|apply Dk)));(focus exact AF rfl);(focus exact q_n);(focus exact q_n);intro gc' cC' zC' hcc hlc)|refine QY ?_|(refine QB ?_;intro b)|(with_reducible refine QZ ?_<;>(try constructor)<;>intro hb<;>try intro hb1)|((with_reducible apply(BT Tryz.call184));(focus exact hC.out);(focus exact⟨Lend.agg ⟨Lend.rowE q_m f1.out (by decide) e1.out l1.out,Lend.rowE q_m f2.out (by decide) e2.out l2.out,trivial⟩,Lend.refl _,trivial⟩))|fail)
 all_goals first
  | ((refine Ab q_x q_y q_u (LE.of_eq ?_) (.inl ⟨?_,rfl,rfl⟩));(focus simp(disch:=omega) only[push_cast,simprocAttr, *]);(focus(rw[hF.out];refine if_neg ?_;rintro⟨h1,h2,h3,h4,h5,h6⟩;(first|omega|exact Bool.noConfusion (h4.symm.trans (by assumption):true=false)|exact Bool.noConfusion (h5.symm.trans (by assumption):false=true)))))
  | ((refine Ab q_x q_y (List.Sublist.refl _) (LE.of_eq ?_) (.inr ⟨x',gs',cS',zS',gc',cC',zC',?_,⟨?_,?_⟩,rfl,?_⟩));(focus simp(disch:=omega) only[push_cast,simprocAttr, *]);(focus(rw[hF.out];refine if_pos ⟨?_,?_,?_,?_,?_,?_⟩<;>first|assumption|omega));(focus(rw[s1.out,g1.out,(by assumption:rq=false)];exact hls));(focus(rw[s2.out,g2.out];exact hlc));(focus(rw[s1.out,s2.out,g1.out,g2.out,g3.out,g4.out,(by assumption:rq=false)])))
end
section
attribute [local push_cast] Ad Ae Ao V.cells_mk V.cells_len Nat.mul_one Int.sub_zero List.map_nil beq_self_eq_true List.head?_cons
theorem EB{sz o:Nat}{e:List D}(zs:List D):∀(es:List (List D)) (c:Nat),(∀x∈es,x.length=sz)→es[c]?=some e→o≤sz→∃tl,(es.flatten++zs).drop (c*sz+o)=e.drop o++tl
|[],c,_,h,_=>by simp at h
|x::es,0,hs,h,ho=>by
  simp only[List.getElem?_cons_zero,Option.some.injEq] at h
  subst h
  have hx:=hs x (List.mem_cons_self ..)
  refine⟨es.flatten++zs,?_⟩
  rw[List.flatten_cons,List.append_assoc,Nat.zero_mul,Nat.zero_add,List.drop_append_of_le_length q_o]
|x::es,c+1,hs,h,ho=>by
  rw[List.getElem?_cons_succ] at h
  obtain⟨tl,ht⟩:=EB zs es c (fun y hy=>hs y (List.mem_cons_of_mem _ hy)) h ho
  have hx:=hs x (List.mem_cons_self ..)
  refine⟨tl,?_⟩
  rw[List.flatten_cons,List.append_assoc,show(c+1)*sz+o=sz+(c*sz+o) by rw[Nat.succ_mul];omega,←List.drop_drop,List.drop_left' hx,ht]
theorem OX{e R ds:List D}{sz o:Nat}(he:e.length=sz):Bh (e++R) (sz+o) ds=e++Bh R o ds:=by
 unfold Bh
 rw[List.take_append,List.take_of_length_le (l:=e) q_o,show sz+o - e.length=o by omega,show sz+o+ds.length=sz+(o+ds.length) by omega,←List.drop_drop,List.drop_left' he]
 simp only[List.append_assoc]
theorem DL{sz o:Nat}{e ds:List D}(zs:List D):∀(es:List (List D)) (c:Nat),(∀x∈es,x.length=sz)→es[c]?=some e→o+ds.length≤sz→Bh (es.flatten++zs) (c*sz+o) ds=(es.set c (Bh e o ds)).flatten++zs
|[],c,_,h,_=>by simp at h
|x::es,0,hs,h,ho=>by
  simp only[List.getElem?_cons_zero,Option.some.injEq] at h
  subst h
  have hx:=hs x (List.mem_cons_self ..)
  rw[List.set_cons_zero,List.flatten_cons,List.flatten_cons,Nat.zero_mul,Nat.zero_add]
  unfold Bh
  rw[show x++es.flatten++zs=x++(es.flatten++zs) from List.append_assoc ..,List.take_append_of_le_length q_o,List.drop_append_of_le_length q_o]
  simp only[List.append_assoc]
|x::es,c+1,hs,h,ho=>by
  rw[List.getElem?_cons_succ] at h
  have:=DL zs es c (fun y hy=>hs y (List.mem_cons_of_mem _ hy)) h ho
  have hx:=hs x (List.mem_cons_self ..)
  rw[List.set_cons_succ,List.flatten_cons,List.flatten_cons,List.append_assoc,List.append_assoc,show(c+1)*sz+o=sz+(c*sz+o) by rw[Nat.succ_mul];omega,OX hx,this]
theorem Jc{P:Program}{N:Nat}{r:Option Nat}{A:AA}{b b' b'':Nat}{ty ty' ty'':TypeId}{cs cs' cs'':List D}{s:St}{Q:Exit→AA→St→Prop}{l:List Oper}{id:Nat}(hm:P.follows .mixedOrders=true)(hB:EI .any l.toArray=true)(hok:CP N l=true)
 (h:(b' == b)=false→(b'' == b)=false→(b'' == b')=false→W P r (some (Gp (.box b ty cs::.box b' ty' cs'::.box b'' ty'' cs''::s))) l.toArray (Q .normal) l A (.box b ty cs::.box b' ty' cs'::.box b'' ty'' cs''::s)):Tr P N r (.region id l.toArray true) A (.box b ty cs::.box b' ty' cs'::.box b'' ty'' cs''::s) Q:=by
 intro a w ha hh
 have h1:=List.pairwise_cons.1 hh.1
 have h2:=List.pairwise_cons.1 h1.2
 have n1:b'≠b:=fun e=>h1.1 (.box b' ty' cs') (List.Mem.head _) b rfl (by rw[←e];rfl)
 have n2:b''≠b:=fun e=>h1.1 (.box b'' ty'' cs'') (List.Mem.tail _ (List.Mem.head _)) b rfl (by rw[←e];rfl)
 have n3:b''≠b':=fun e=>h2.1 (.box b'' ty'' cs'') (List.Mem.head _) b' rfl (by rw[←e];rfl)
 exact Cm _ hm hB hok (BA _) (h (beq_eq_false_iff_ne.2 n1) (beq_eq_false_iff_ne.2 n2) (beq_eq_false_iff_ne.2 n3)) a w ha hh
theorem Ln{st:St}{bx gs gc m1 m2 cS cC:Nat}{T T1 T2:TypeId}{R1 R2 zS zC:List D}{L1 L2:List (List D)}(h1:Res.box bx T [.ar gs 0 m1 cS,.ar gc 0 m2 cC]∈st)(h2:Res.box gs T1 (R1++zS)∈st)(h3:Res.box gc T2 (R2++zC)∈st)
 (f1:L1.flatten=R1)(e1:∀e∈L1,e.length=7)(l1:L1.length=m1)(f2:L2.flatten=R2)(e2:∀e∈L2,e.length=1)(l2:L2.length=m2):Lend st (.ptr bx 0) (.ip [.sl .shared L1,.sl .shared L2]) :=
 Lend.ptr h1 ⟨Lend.rowE h2 f1 (by decide) e1 l1,Lend.rowE h3 f2 (by decide) e2 l2,trivial⟩ (by
  intro d hd
  simp only[List.mem_cons,List.not_mem_nil,or_false] at hd
  rcases hd with rfl|rfl<;>rfl)
theorem UG(bx gs cS gc cC:Nat)(zS zC:List D)(x:Vr)(stp:Stp)(hx:VW x)(hs:stp.Ok)(hz:VL cS zS cC zC x)(s:St):TrF Tryz.prog 187 [.ptr bx 0,.agg stp.cells] (VB bx gs cS zS gc cC zC x s) (CR Sch.loseS x stp bx s):=by
 obtain⟨ls,lc,hcs⟩:=hx
 obtain⟨hn,hbg,ho⟩:=hs
 obtain⟨hz1,hz2⟩:=hz
 have hK:=GD x stp [] q_o q_o
 have hB:=GY stp.slot false false hbg
 have hF:Hid (Sch.loseS x stp=if Sch.column x stp=true∧Sch.bare stp.slot false false=true∧x.cols.length≠1 then some ⟨x.slots,x.cols.eraseIdx stp.col.toNat⟩ else none):=rfl
 have e1:=Lib.hid (BQ x.slots)
 have e2:=Lib.hid (BX x.cols)
 have f1:=Lib.hid (DJ x)
 have f2:=Lib.hid (DF x)
 have l1:Hid ((x.slots.map Sl.cells).length=x.slots.length):=List.length_map ..
 have l2:Hid ((x.cols.map Ao).length=x.cols.length):=List.length_map ..
 unfold CR VL VB Stp.cells
 generalize Sch.loseS x stp=F at *
 cases hcl:Sch.column x stp with
|false =>
  rw[hcl] at hK hF
  unfold Vr.cells Stp.cells at hK
  clear hcl
  cases stp with
  | mk kd col slot order =>
  cases slot with
  | mk nm ty rq dv =>
  cases dv with
  | mk k n sv l =>
  dsimp only at ho ⊢
  generalize AH x.slots=R1 at *
  generalize AY x.cols=R2 at *
  generalize x.slots.map Sl.cells=L1 at *
  generalize x.cols.map Ao=L2 at *
  rw[Sl.cells_mk] at *
  dsimp only[List.cons_append,List.nil_append] at hK ⊢
  generalize x.slots.length=m1 at *
  generalize x.cols.length=m2 at *
  replace hK:=Lib.hid hK
  refine Qin [4] Tryz.func187 Tryz.results187 Tryz.ntmps187 ?_
  repeat' (first|refine QX ?_|(refine QB ?_;intro b)|(with_reducible refine QZ ?_<;>(try constructor)<;>intro hb<;>try intro hb1)|((with_reducible apply(BT Tryz.call202));(focus exact hK.out);(focus exact⟨Ln q_m q_m q_m f1.out e1.out l1.out f2.out e2.out l2.out,Lend.refl _,trivial⟩))|fail)
  all_goals((refine Ab q_x q_y q_u (LE.of_eq ?_) (.inl ⟨?_,rfl,rfl⟩));(focus simp(disch:=omega) only[push_cast,simprocAttr, *]);(focus(rw[hF.out];refine if_neg ?_;rintro⟨h1,h2,h3⟩;(first|omega|exact Bool.noConfusion (h1.symm.trans (by assumption):true=false)|exact Bool.noConfusion (h2.symm.trans (by assumption):true=false)|exact Bool.noConfusion (h3.symm.trans (by assumption):true=false)|(exact Bool.noConfusion (h1:false=true))))))
|true =>
  obtain⟨hk1,hk2,hk3⟩:0≤stp.col∧stp.col<x.cols.length∧stp.order.length=0:=by
   unfold Sch.column at hcl
   simpa [and_assoc] using hcl
  obtain⟨i,hi⟩:=Int.eq_ofNat_of_zero_le hk1
  have hlt:i<x.cols.length:=by omega
  rw[hcl] at hK hF
  unfold Vr.cells Stp.cells at hK
  clear hcl hk1 hk2
  have hD:=fun s=>Yy gc cC i x.cols zC hlt hz2 s
  have hcl2:=Cs (x.cols.eraseIdx i)
  have hcl:=Cs x.cols
  have hel:(x.cols.eraseIdx i).length+1=x.cols.length:=by rw[List.length_eraseIdx_of_lt hlt];omega
  obtain⟨x',hx'⟩:∃x':Vr,x'=⟨x.slots,x.cols.eraseIdx stp.col.toNat⟩:=⟨_,rfl⟩
  rw[←hx'] at hF
  rw[hi,Int.toNat_natCast] at hx'
  have s1:Hid (x'.slots=x.slots):=Lib.hid (by rw[hx'])
  have s2:Hid (x'.cols=x.cols.eraseIdx i):=Lib.hid (by rw[hx'])
  clear hx'
  generalize hE:x.cols.eraseIdx i=ec at *
  generalize Sch.bare stp.slot false false=q at *
  generalize hRE:AY ec=RE at *
  generalize hme:ec.length=me at *
  replace hE:=Lib.hid hE
  replace hRE:=Lib.hid hRE
  replace hme:=Lib.hid hme
  replace hel:=Lib.hid hel
  replace hcl2:=Lib.hid hcl2
  replace hcl:=Lib.hid hcl
  cases stp with
  | mk kd col slot order =>
  cases slot with
  | mk nm ty rq dv =>
  cases dv with
  | mk k n sv l =>
  dsimp only at hB ho hi hF ⊢
  subst hi
  generalize hR1:AH x.slots=R1 at *
  generalize hR2:AY x.cols=R2 at *
  generalize x.slots.map Sl.cells=L1 at *
  generalize x.cols.map Ao=L2 at *
  rw[Sl.cells_mk] at *
  dsimp only[List.cons_append,List.nil_append] at hK ⊢
  generalize hm1:x.slots.length=m1 at *
  generalize hm2:x.cols.length=m2 at *
  replace hR1:=Lib.hid hR1
  replace hR2:=Lib.hid hR2
  replace hm1:=Lib.hid hm1
  replace hm2:=Lib.hid hm2
  replace hK:=Lib.hid hK
  replace hB:=Lib.hid hB
  replace hD:=Lib.hid hD
  refine Qin [4] Tryz.func187 Tryz.results187 Tryz.ntmps187 ?_
  repeat' (first|refine QV ?_|((with_reducible refine Cm [(bx,[.ar gs 0 m1 cS,.ar gc 0 m2 cC])] ?_ ?_ ?_ ?_ ?_);(iterate 3 (focus kernel_rfl));(focus((repeat(first|exact An|refine Aw q_m ?_));done)))|((with_reducible refine And.intro ?_ ?_);(focus exact q_k))|refine QY ?_|(refine QB ?_;intro b)|(with_reducible refine QZ ?_<;>(try constructor)<;>intro hb<;>try intro hb1)|((with_reducible apply(BT Tryz.call202));(focus exact hK.out);(focus exact⟨Ln q_m q_m q_m f1.out e1.out l1.out f2.out e2.out l2.out,Lend.refl _,trivial⟩))|fail)
  all_goals first
   | ((refine Ab q_x q_y q_u (LE.of_eq ?_) (.inl ⟨?_,rfl,rfl⟩));(focus simp(disch:=omega) only[push_cast,simprocAttr, *]);(focus(rw[hF.out];refine if_neg ?_;rintro⟨h1,h2,h3⟩;(first|omega|exact Bool.noConfusion (h1.symm.trans (by assumption):true=false)|exact Bool.noConfusion (h2.symm.trans (by assumption):true=false)|exact Bool.noConfusion (h3.symm.trans (by assumption):true=false)|(exact Bool.noConfusion (h1:false=true))))))
   | ((refine Ab q_x q_y (List.Sublist.refl _) (LE.of_eq ?_) (.inr ⟨x',gs,cS,zS,gc,cC,D.i 0::zC,?_,⟨?_,?_⟩,rfl,?_⟩));(focus simp(disch:=omega) only[push_cast,simprocAttr, *]);(focus(rw[hF.out];refine if_pos ⟨rfl,?_,?_⟩<;>first|assumption|omega));(focus(rw[s1.out,hR1.out];exact hz1));(focus(rw[s2.out,hRE.out];have h1:=hel.out;have h2:=hcl2.out;have h3:=hcl.out;rw[List.length_append] at hz2 ⊢;rw[List.length_cons];omega));(focus(rw[s1.out,s2.out,hR1.out,hRE.out,hm1.out,hme.out])))
theorem JF{α:Type}{l:List α}{f:α→α}{i:Nat}{y:α}(h:l[i]?=some y):l.modify i f=l.set i (f y):=by
 apply List.ext_getElem?
 intro j
 rw[List.getElem?_modify,List.getElem?_set]
 by_cases hj:i=j
 · subst hj
   obtain⟨hlt,rfl⟩:=List.getElem?_eq_some_iff.1 h
   simp[hlt]
 · simp[hj]
theorem OZ(bx gs cS gc cC:Nat)(zS zC:List D)(x:Vr)(stp:Stp)(hx:VW x)(hs:stp.Ok)(hz:VL cS zS cC zC x)(s:St):TrF Tryz.prog 188 [.ptr bx 0,.agg stp.cells] (VB bx gs cS zS gc cC zC x s) (CR Sch.renameS x stp bx s):=by
 obtain⟨ls,lc,hcs⟩:=hx
 obtain⟨hn,hbg,ho⟩:=hs
 obtain⟨hz1,hz2⟩:=hz
 have hK:=GD x stp [] q_o q_o
 have hB:=GY stp.slot true false hbg
 have hN:=DH stp.slot.name
 have hC:=Mk x.slots x.cols stp.slot.name q_o q_o []
 have hF:Hid (Sch.renameS x stp=if Sch.column x stp=true∧Sch.bare stp.slot true false=true∧V.isName stp.slot.name.data.toList=true∧Sch.colL x.slots stp.slot.name x.cols<0 then some ⟨x.slots.modify (Sch.at_ x stp) fun y=>{y with name:=stp.slot.name},x.cols⟩ else none):=rfl
 have e1:=Lib.hid (BQ x.slots)
 have e2:=Lib.hid (BX x.cols)
 have f1:=Lib.hid (DJ x)
 have f2:=Lib.hid (DF x)
 have l1:Hid ((x.slots.map Sl.cells).length=x.slots.length):=List.length_map ..
 have l2:Hid ((x.cols.map Ao).length=x.cols.length):=List.length_map ..
 unfold CR VL VB Stp.cells
 generalize Sch.renameS x stp=F at *
 cases hcl:Sch.column x stp with
|false =>
  rw[hcl] at hK hF
  unfold Vr.cells Stp.cells at hK
  clear hcl
  cases stp with
  | mk kd col slot order =>
  cases slot with
  | mk nm ty rq dv =>
  cases dv with
  | mk k n sv l =>
  dsimp only at ho ⊢
  generalize AH x.slots=R1 at *
  generalize AY x.cols=R2 at *
  generalize x.slots.map Sl.cells=L1 at *
  generalize x.cols.map Ao=L2 at *
  rw[Sl.cells_mk] at *
  dsimp only[List.cons_append,List.nil_append] at hK ⊢
  generalize x.slots.length=m1 at *
  generalize x.cols.length=m2 at *
  replace hK:=Lib.hid hK
  refine Qin [4] Tryz.func188 Tryz.results188 Tryz.ntmps188 ?_
  repeat' (first|refine QX ?_|(refine QB ?_;intro b)|(with_reducible refine QZ ?_<;>(try constructor)<;>intro hb<;>try intro hb1)|((with_reducible apply(BT Tryz.call202));(focus exact hK.out);(focus exact⟨Ln q_m q_m q_m f1.out e1.out l1.out f2.out e2.out l2.out,Lend.refl _,trivial⟩))|fail)
  all_goals((refine Ab q_x q_y q_u (LE.of_eq ?_) (.inl ⟨?_,rfl,rfl⟩));(focus simp(disch:=omega) only[push_cast,simprocAttr, *]);(focus(rw[hF.out];refine if_neg ?_;rintro⟨h1,h2,h3,h4⟩;(first|omega|exact Bool.noConfusion (h1.symm.trans (by assumption):true=false)|exact Bool.noConfusion (h2.symm.trans (by assumption):true=false)|exact Bool.noConfusion (h3.symm.trans (by assumption):true=false)|exact Bool.noConfusion (h4.symm.trans (by assumption):true=false)|(exact Bool.noConfusion (h1:false=true))))))
|true =>
  obtain⟨hk1,hk2,hk3⟩:0≤stp.col∧stp.col<x.cols.length∧stp.order.length=0:=by
   unfold Sch.column at hcl
   simpa [and_assoc] using hcl
  obtain⟨i,hi⟩:=Int.eq_ofNat_of_zero_le hk1
  have hlt:i<x.cols.length:=by omega
  rw[hcl] at hK hF
  unfold Vr.cells Stp.cells at hK
  clear hcl hk1 hk2
  obtain⟨c,hc⟩:=gEx hlt
  have hcm:c<x.slots.length:=hcs c (List.mem_of_getElem? hc)
  obtain⟨y,hy⟩:=gEx hcm
  have hat:Sch.at_ x stp=c:=by
   unfold Sch.at_
   rw[hi,Int.toNat_natCast,List.getD_eq_getElem?_getD,hc];rfl
  have hL2:(x.cols.map Ao)[i]?=some [D.i c]:=by rw[List.getElem?_map,hc];rfl
  have hL1:(x.slots.map Sl.cells)[c]?=some y.cells:=by rw[List.getElem?_map,hy];rfl
  obtain⟨t1,hld⟩:∃tl,List.drop i (AY x.cols++zC)=D.i c::tl:=by
   obtain⟨tl,h⟩:=EB (sz:=1) (o:=0) zC _ i (BX x.cols) hL2 q_o
   rw[Nat.mul_one,Nat.add_zero] at h
   exact⟨tl,h⟩
  obtain⟨x',hx'⟩:∃x':Vr,x'=⟨x.slots.modify (Sch.at_ x stp) fun y=>{y with name:=stp.slot.name},x.cols⟩:=⟨_,rfl⟩
  rw[←hx'] at hF
  rw[hat,JF hy] at hx'
  have s1:Hid (x'.slots=x.slots.set c {y with name:=stp.slot.name}):=Lib.hid (by rw[hx'])
  have s2:Hid (x'.cols=x.cols):=Lib.hid (by rw[hx'])
  have s3:Hid ((x.slots.set c {y with name:=stp.slot.name}).length=x.slots.length):=List.length_set
  have hsp:List.take (c*7) (AH x.slots++zS)++[D.str stp.slot.name]++List.drop (c*7+1) (AH x.slots++zS)=AH (x.slots.set c {y with name:=stp.slot.name})++zS:=by
   have h:=DL (o:=0) (ds:=[D.str stp.slot.name]) zS _ c (BQ x.slots) hL1 (by simp)
   rw[show Bh y.cells 0 [D.str stp.slot.name]=Sl.cells {y with name:=stp.slot.name} from rfl,show(x.slots.map Sl.cells).set c (Sl.cells {y with name:=stp.slot.name})=(x.slots.set c {y with name:=stp.slot.name}).map Sl.cells from(List.map_set ..).symm] at h
   exact h
  have hle:c*7+1≤cS*7:=by
   have:=BJ x.slots
   rw[List.length_append] at hz1
   omega
  have hl3:(AH (x.slots.set c {y with name:=stp.slot.name})++zS).length=cS*7:=by
   rw[List.length_append] at hz1 ⊢
   rw[BJ,List.length_set,←BJ];exact hz1
  clear hx' hat hL1 hL2 hy hc
  generalize Sch.bare stp.slot true false=q at *
  generalize V.isName stp.slot.name.data.toList=qn at *
  generalize Sch.colL x.slots stp.slot.name x.cols=cv at *
  generalize hRE:AH (x.slots.set c {y with name:=stp.slot.name})=RE at *
  replace hRE:=Lib.hid hRE
  replace hl3:=Lib.hid hl3
  cases stp with
  | mk kd col slot order =>
  cases slot with
  | mk nm ty rq dv =>
  cases dv with
  | mk k n sv l =>
  dsimp only at hB hN hC ho hi hF ⊢
  subst hi
  generalize hR1:AH x.slots=R1 at *
  generalize hR2:AY x.cols=R2 at *
  generalize x.slots.map Sl.cells=L1 at *
  generalize x.cols.map Ao=L2 at *
  rw[Sl.cells_mk] at *
  dsimp only[List.cons_append,List.nil_append] at hK ⊢
  generalize hm1:x.slots.length=m1 at *
  generalize hm2:x.cols.length=m2 at *
  replace hR1:=Lib.hid hR1
  replace hR2:=Lib.hid hR2
  replace hm1:=Lib.hid hm1
  replace hm2:=Lib.hid hm2
  replace hK:=Lib.hid hK
  replace hB:=Lib.hid hB
  replace hN:=Lib.hid hN
  replace hC:=Lib.hid hC
  refine Qin [4] Tryz.func188 Tryz.results188 Tryz.ntmps188 ?_
  repeat' (first|refine QV ?_|((with_reducible refine Jc ?_ ?_ ?_ ?_);(iterate 3 (focus kernel_rfl));intro hne1 hne2 hne3)|refine QY ?_|(refine QB ?_;intro b)|(with_reducible refine QZ ?_<;>(try constructor)<;>intro hb<;>try intro hb1)|((with_reducible apply(BT Tryz.call202));(focus exact hK.out);(focus exact⟨Ln q_m q_m q_m f1.out e1.out l1.out f2.out e2.out l2.out,Lend.refl _,trivial⟩))|((with_reducible apply(BT Tryz.call184));(focus exact hC.out);(focus exact⟨Lend.agg ⟨Lend.rowE q_m f1.out (by decide) e1.out l1.out,Lend.rowE q_m f2.out (by decide) e2.out l2.out,trivial⟩,Lend.refl _,trivial⟩))|fail)
  all_goals first
   | ((refine Ab q_x q_y q_u (LE.of_eq ?_) (.inl ⟨?_,rfl,rfl⟩));(focus simp(disch:=omega) only[push_cast,simprocAttr, *]);(focus(rw[hF.out];refine if_neg ?_;rintro⟨h1,h2,h3,h4⟩;(first|omega|exact Bool.noConfusion (h1.symm.trans (by assumption):true=false)|exact Bool.noConfusion (h2.symm.trans (by assumption):true=false)|exact Bool.noConfusion (h3.symm.trans (by assumption):true=false)|exact Bool.noConfusion (h4.symm.trans (by assumption):true=false)|(exact Bool.noConfusion (h1:false=true))))))
   | ((refine Ab q_x q_y (List.Sublist.refl _) (LE.of_eq ?_) (.inr ⟨x',gs,cS,zS,gc,cC,zC,?_,⟨?_,?_⟩,rfl,?_⟩));(focus simp(disch:=omega) only[push_cast,simprocAttr, *]);(focus(rw[hF.out];refine if_pos ⟨rfl,?_,?_,?_⟩<;>first|assumption|omega));(focus(rw[s1.out,hRE.out];exact hl3.out));(focus(rw[s2.out,hR2.out];exact hz2));(focus(rw[s1.out,s2.out,s3.out,hRE.out,hR2.out,hm2.out])))
end
end Go.Proofs.YtoeidpmjifjplaaGreat
