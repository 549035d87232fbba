/- Texts put together. No statement is proved here. -/
import Derived.MapKept
import Derived.LaidEql
import Derived.Test.YtoeidpmjifjplaaGreatShelf
import Derived.Deep.QuietTactic
import Derived.BigQuiet
import Derived.Test.YtoeidpmjifjplaaGreatZ5
set_option linter.all false
set_option maxRecDepth 10000
set_option maxHeartbeats 8000000
namespace Go.Proofs.YtoeidpmjifjplaaGreat
open Go.RowKit Tryz
section
def Ir:Nat->List Int->List MapEntry
|_,[]=>[]
|i,n::l=>⟨.int .i64 n,.bool true,i⟩::Ir (i+1) l
def KW (l:List Int):Obj:=.map (Ir 0 l).toArray l.length
def Fy (r:Nat)(l:List Int):Res:=.raw r (KW l)
abbrev D.mp (r:Nat):D:=.s (.map (some r))
def Tq (l:List Int)(n:Int):List Int:=if n∈l then l else l++[n]
theorem VM(l m:List Int):∀i,Ir i (l++m)=Ir i l++Ir (i+l.length) m:=by
 induction l with
|nil=>intro i;rfl
|cons n l ih=>intro i;simp only[AI,Ir,ih,An];rw[show i+1+l.length=i+(l.length+1) by omega]
theorem dE(l:List Int):∀i,(Ir i l).length=l.length:=by
 induction l with
|nil=>intro i;rfl
|cons n l ih=>intro i;simp only[Ir,An,ih]
theorem JG(n:Int):∀(l:List Int) (i j:Nat),(n∈l->∃k,k<l.length/\Instr.findNow (.int .i64) (.int .i64 n) (Ir i l) j=some (some (j+k,.bool true))/\(Ir i l)[k]?=some ⟨.int .i64 n,.bool true,i+k⟩)/\(n∉l->Instr.findNow (.int .i64) (.int .i64 n) (Ir i l) j=some none)
|[],i,j=>⟨fun h=>(by cases h),λ_=>rfl⟩
|m::l,i,j=>by
  have hs:Instr.sameNow (.int .i64) (.int .i64 n) (.int .i64 m)=some (n == m):=by simp[Instr.sameNow]
  have ih:=JG n l (i+1) (j+1)
  by_cases h:n=m
  . subst h
    refine⟨λ_=>⟨0,by simp,?_,rfl⟩,λhn=>absurd (Ag ..) hn⟩
    simp[Ir,Instr.findNow,hs]
  . have hf:(n == m)=false:=beq_eq_false_iff_ne.2 h
    refine⟨λhm=>?_,λhm=>?_⟩
    . obtain⟨k,k1,k2,k3⟩:=ih.1 ((Ax.1 hm).resolve_left h)
      refine⟨k+1,by simpa using k1,?_,?_⟩
      . simp only[Ir,Instr.findNow,hs,hf,k2]
        rw[show j+1+k=j+(k+1) by omega]
      . simp only[Ir,Bq,k3]
        rw[show i+1+k=i+(k+1) by omega]
    . simp only[Ir,Instr.findNow,hs,hf]
      exact ih.2 λhk=>hm (Ae _ hk)
section
variable {P:Program} {r:Option Nat} {o:Oper} {e:Nat->D} {st:St} {K:D->St->Prop} {t kt et:TypeId} {b:Nat} {n:Int} {l:List Int}
theorem JU(hk:P.underlying kt=some (.int .i64))(em:Bool)(w:World):(Instr.checkKey em 10000 kt (.int .i64 n)).run P w=.ok () w:=mq (k:=.int .i64 n) hk (by simp[Go.MapKept.IsKey]) em 9999
theorem Ld(hk:P.underlying kt=some (.int .i64))(w:World){x:Option (Nat×Value)}(h:Instr.findNow (.int .i64) (.int .i64 n) (Ir 0 l) 0=some x):(Instr.findKey kt (.int .i64 n) (Ir 0 l)).run P w=.ok x w:=Qh hk h
theorem UP(ho:o.op=.makeMap t none)(h:∀b,K (.mp b) (Fy b []::st)):OpC P r o e st K:=by
 refine DB (by rw[ho];intro c hc;cases hc) λρ w hr hh=>.inl ?_
 obtain⟨k1,k2⟩:=Io hh (.raw w.heap.size (.map #[] 0)) (λb e=>by cases e;rfl) (.map #[] 0) λhe=>heap_alloc_new w _
 unfold execOp
 rw[ho]
 exact⟨.map (some w.heap.size),_,rfl,.mp w.heap.size,_,.s _ rfl,k1,k2,h _⟩
theorem Wv{x y:Operand}(ho:o.op=.lookup t x y false)(hx:ev e x=some (.mp b))(hy:ev e y=some (.i n))(hm:Fy b l∈st)(hu:P.underlying t=some (.map kt et))(hk:P.underlying kt=some (.int .i64))(hz:(P.info? et).bind (·.zero)=some (.bool false))(h:K (.b (decide (n∈l))) st):OpC P r o e st K:=by
 refine DB (by rw[ho];intro c hc;cases hc) λρ w hr hh=>.inl ?_
 have hp:=hr _ (by simp[ho,Op.operands]) _ hx
 have hv:=hr _ (by simp[ho,Op.operands]) _ hy
 have hb:w.heap[b]?=some (KW l):=hh.2 _ hm
 unfold execOp
 rw[ho]
 simp only
 generalize ρ x=p at hp
 generalize ρ y=v at hv
 cases hp
 cases hv
 have hz2:(zeroValue et).run P w=.ok (.bool false) w:=by
  cases hi:P.info? et with
  | none=>rw[hi]at hz;cases hz
  | some i =>
   rw[hi]at hz
   simp only[BS]at hz
   simp[zeroValue,typeInfo,hi,hz]
 have hget:(getObj b).run P w=.ok (KW l) w:=FD hb
 by_cases hn:n∈l
 . obtain⟨k,k1,k2,k3⟩:=(JG n l 0 0).1 hn
   refine⟨.bool true,w,?_,.b (decide (n∈l)),st,?_,hh,Ext.refl _ _,h⟩
   . simp[Instr.lookup,run_underlying hu,hget,KW,JU hk,Ld hk w k2]
   . rw[decide_eq_true hn];exact .s _ rfl
 . have k2:=(JG n l 0 0).2 hn
   refine⟨.bool false,w,?_,.b (decide (n∈l)),st,?_,hh,Ext.refl _ _,h⟩
   . simp[Instr.lookup,run_underlying hu,hget,KW,JU hk,Ld hk w k2,hz2]
   . rw[decide_eq_false hn];exact .s _ rfl
theorem Qv{x y z:Operand}{s1:St}(ho:o.op=.mapUpdate t x y z)(hx:ev e x=some (.mp b))(hy:ev e y=some (.i n))(hz:ev e z=some (.b true))(hm:ResAt (Fy b l) (Fy b (Tq l n)) st s1)(hu:P.underlying t=some (.map kt et))(hk:P.underlying kt=some (.int .i64))(h:K D.un s1):OpC P r o e st K:=by
 refine DB (by rw[ho];intro c hc;cases hc) λρ w hr hh=>.inr ?_
 have hp:=hr _ (by simp[ho,Op.operands]) _ hx
 have hv:=hr _ (by simp[ho,Op.operands]) _ hy
 have hzv:=hr _ (by simp[ho,Op.operands]) _ hz
 obtain⟨s0,p1,p2⟩:=hm.perm
 have hh':=hh.perm p1
 have hb:w.heap[b]?=some (KW l):=hh'.2 _ (Ag ..)
 unfold execOp
 rw[ho]
 simp only
 generalize ρ x=p at hp
 generalize ρ y=v at hv
 generalize ρ z=u at hzv
 cases hp
 cases hv
 cases hzv
 have hget:(getObj b).run P w=.ok (KW l) w:=FD hb
 have hset:∀o,(setObj b o).run P w=.ok () (w.putObj b o):=λo=>Nb o hb
 obtain⟨q1,q2⟩:=Ox (o':=KW (Tq l n)) hh' (λc E fr h=>by cases h)
 refine⟨_,?_,D.un,s1,.s undef rfl,q1.perm p2.symm,q2.perm p1 p2,h⟩
 by_cases hn:n∈l
 . obtain⟨k,k1,k2,k3⟩:=(JG n l 0 0).1 hn
   have hmod:(Ir 0 l).toArray.modify k (λe=>{e with key:=.int .i64 n,val:=.bool true})=(Ir 0 l).toArray:=by
    apply Array.ext_getElem?
    intro j
    rw[Di]
    split
    . rename_i hj;subst hj
      simp[k3]
    . rfl
   have hl2:k<(Ir 0 l).length:=by rw[dE];exact k1
   have hkk:(((Ir 0 l).toArray[k]?).map (·.key)).getD (.int .i64 n)=.int .i64 n:=by simp[k3]
   simp only[Instr.mapUpdate,AG,run_underlying hu,Am,hget,KW,JU hk,Ld hk w k2,hset,Tq,if_pos hn]
   have hmod2:(Ir 0 l).modify k (λe=>{e with key:=.int .i64 n,val:=.bool true})=Ir 0 l:=by simpa using hmod
   simp[k3,Instr.keyThatStays,Instr.sameBits,hmod2,hset]
 . have k2:=(JG n l 0 0).2 hn
   simp only[Instr.mapUpdate,AG,run_underlying hu,Am,hget,KW,JU hk,Ld hk w k2,Tq,if_neg hn]
   simp[hset,VM,Ir,KW]
end
def ZH (P:Program)(t:TypeId):Bool :=
 match P.underlying t with
|some (.map kt et)=>(match P.underlying kt with|some (.int .i64)=>true|_=>false) && (match (P.info? et).bind (·.zero)with|some (.bool false)=>true|_=>false)
|_=>false
theorem RA{P:Program}{t:TypeId}(h:ZH P t=true):∃kt et,P.underlying t=some (.map kt et)/\P.underlying kt=some (.int .i64)/\(P.info? et).bind (·.zero)=some (.bool false):=by
 unfold ZH at h
 split at h
 . rename_i kt et hu
   rw[AF]at h
   obtain⟨h1,h2⟩:=h
   refine⟨kt,et,hu,?_,?_⟩
   . split at h1
     . assumption
     . cases h1
   . split at h2
     . assumption
     . cases h2
 . cases h
section
variable {P:Program} {r:Option Nat} {m:Option Ro} {A:AA} {st:St} {k:D->St->Prop} {dst:Option Tmp} {ty:TypeId} {pos:String} {aft:Array Edge} {gd:Option (Nat×Bool)} {t:TypeId} {b:Nat} {n:Int} {l:List Int}
def MkM (m:Option Ro)(st:St)(k:D->St->Prop):Prop:=∀b,CZ m (Fy b []::st)/\k (.mp b) (Fy b []::st)
theorem ie(h:∀b,CZ m (Fy b []::st)/\k (.mp b) (Fy b []::st)):MkM m st k:=h
theorem YV(h:MkM m st k):S P r m ⟨dst,.makeMap t none,ty,pos,aft,gd⟩ A st k :=
 Ek (R:=λd s=>∃b,d=.mp b/\s=Fy b []::st) rfl (UP rfl λb=>⟨b,rfl,rfl⟩) ⟨_,_,0,rfl,rfl⟩ λd s ⟨b,e1,e2⟩=>by subst e1 e2;exact h b
def LkM (P:Program)(m:Option Ro)(t:TypeId)(d d':D)(st:St)(k:D->St->Prop):Prop :=
 ∃b n l,d=.mp b/\d'=.i n/\Fy b l∈st/\ZH P t=true/\CZ m st/\k (.b (decide (n∈l))) st
theorem bu{x y:Operand}(h:Ev (ev A.e x) λd=>Ev (ev A.e y) λd'=>LkM P m t d d' st k):S P r m ⟨dst,.lookup t x y false,ty,pos,aft,gd⟩ A st k:=by
 obtain⟨d,h1,d',h2,b,n,l,rfl,rfl,hm,ht,h3⟩:=h
 obtain⟨kt,et,t1,t2,t3⟩:=RA ht
 exact Ek (R:=λd s=>d=.b (decide (n∈l))/\s=st) rfl (Wv rfl h1 h2 hm t1 t2 t3 ⟨rfl,rfl⟩) ⟨_,_,rfl,rfl⟩ λd s ⟨e1,e2⟩=>by subst e1 e2;exact h3
def UpM (P:Program)(m:Option Ro)(t:TypeId)(d d' d'':D)(st:St)(k:D->St->Prop):Prop :=
 ∃b n l s1,d=.mp b/\d'=.i n/\d''=.b true/\ResAt (Fy b l) (Fy b (Tq l n)) st s1/\ZH P t=true/\CZ m s1/\k D.un s1
theorem Ui{x y z:Operand}(h:Ev (ev A.e x) λd=>Ev (ev A.e y) λd'=>Ev (ev A.e z) λd''=>UpM P m t d d' d'' st k):S P r m ⟨dst,.mapUpdate t x y z,ty,pos,aft,gd⟩ A st k:=by
 obtain⟨d,h1,d',h2,d'',h4,b,n,l,s1,rfl,rfl,rfl,hm,ht,h3⟩:=h
 obtain⟨kt,et,t1,t2,t3⟩:=RA ht
 exact Ek (R:=λd s=>d=D.un/\s=s1) rfl (Qv rfl h1 h2 h4 hm t1 t2 ⟨rfl,rfl⟩) ⟨_,_,rfl,rfl⟩ λd s ⟨e1,e2⟩=>by subst e1 e2;exact h3
instance Ck:Go1 (S P r m ⟨dst,.makeMap t none,ty,pos,aft,gd⟩ A st k) (MkM m st k):=⟨YV⟩
instance Cu {x y:Operand}:Go1 (S P r m ⟨dst,.lookup t x y false,ty,pos,aft,gd⟩ A st k) (Ev (ev A.e x) λd=>Ev (ev A.e y) λd'=>LkM P m t d d' st k):=⟨bu⟩
instance BO {x y z:Operand}:Go1 (S P r m ⟨dst,.mapUpdate t x y z,ty,pos,aft,gd⟩ A st k) (Ev (ev A.e x) λd=>Ev (ev A.e y) λd'=>Ev (ev A.e z) λd''=>UpM P m t d d' d'' st k):=⟨Ui⟩
end
class MpI (b:Nat)(st:St)(l:outParam (List Int))(s1:outParam (List Int->St)):Prop where
 mem:Fy b l∈st
 go:∀l',ResAt (Fy b l) (Fy b l') st (s1 l')
instance lS {b:Nat}{l:List Int}{st:St}:MpI b (Fy b l::st) l (λl'=>Fy b l'::st):=⟨List.Mem.head _,λ_=>ResAt.here⟩
instance (priority:=low) mp_there {b:Nat}{l:List Int}{x:Res}{st:St}{s1:List Int->St}[h:MpI b st l s1]:MpI b (x::st) l (λl'=>x::s1 l'):=⟨List.Mem.tail _ h.mem,λl'=>ResAt.there (h.go l')⟩
section
variable {P:Program} {m:Option Ro} {st:St} {k:D->St->Prop} {t:TypeId} {b:Nat} {n:Int} {l:List Int} {s1:List Int->St}
instance nV [h:MpI b st l s1]:Go5 (LkM P m t (.s (.map (some b))) (.s (.int .i64 n)) st k) (ZH P t=true) (CZ m st/\k (.b (decide (n∈l))) st):=⟨λht hk=>⟨b,n,l,rfl,rfl,h.mem,ht,hk⟩⟩
instance nU [h:MpI b st l s1]:Go5 (UpM P m t (.s (.map (some b))) (.s (.int .i64 n)) (.s (.bool true)) st k) (ZH P t=true) (CZ m (s1 (Tq l n))/\k D.un (s1 (Tq l n))):=⟨λht hk=>⟨b,n,l,_,rfl,rfl,rfl,h.go _,ht,hk⟩⟩
end
end
section
inductive MK where
|i (n:Int)
|p (b:Nat)
 deriving DecidableEq
def MK.v:MK->Value
|.i n=>.int .i64 n
|.p b=>.pointer (some ⟨b,0,none⟩)
def MK.d:MK->D
|.i n=>.i n
|.p b=>.ptr b 0
structure KE where
 k:MK
 x:Int
 born:Nat
def KE.ent (e:KE):MapEntry:=⟨e.k.v,.int .i64 e.x,e.born⟩
def GT (l:List KE)(c:Nat):Obj:=.map (l.map KE.ent).toArray c
abbrev Ic (r:Nat)(l:List KE)(c:Nat):Res:=.raw r (GT l c)
def KO (k:MK):List KE->Nat->Option (Nat×Value)
|[],_=>none
|e::l,j=>if k=e.k then some (j,.int .i64 e.x)else KO k l (j+1)
def Fa (l:List KE)(k:MK):Option Int:=(l.find? λe=>decide (k=e.k)).map KE.x
def ET (l:List KE)(c:Nat)(k:MK)(x:Int):List KE×Nat:=match l.findIdx? (λe=>decide (k=e.k))with
|some j=>(l.modify j λe=>⟨k,x,e.born⟩,c)
|none=>(l++[⟨k,x,c⟩],c+1)
def IV (l:List KE)(k:MK):List KE:=match l.findIdx? (λe=>decide (k=e.k))with
|some j=>l.eraseIdx j
|none=>l
theorem NA(k:MK):∀(l:List KE) (j:Nat),KO k l j=(l.findIdx? λe=>decide (k=e.k)).bind λi=>(l[i]?).map λe=>(j+i,Value.int .i64 e.x)
|[],_=>rfl
|e::l,j=>by
  rw[KO,List.findIdx?_cons]
  by_cases h:k=e.k
  . rw[if_pos h,decide_eq_true h];rfl
  . rw[if_neg h,decide_eq_false h,NA k l (j+1)]
    cases l.findIdx? λe=>decide (k=e.k)with
    | none=>rfl
    | some i =>
     simp only[CK,BS,Bq,BN,if_false]
     rw[show j+1+i=j+(i+1) by omega]
theorem Pp(k:MK):∀(l:List KE) (j:Nat),(KO k l j).map Prod.snd=(Fa l k).map (Value.int .i64)
|[],_=>rfl
|e::l,j=>by
  unfold Fa
  rw[KO,GA]
  by_cases h:k=e.k
  . rw[if_pos h,decide_eq_true h];rfl
  . rw[if_neg h,decide_eq_false h];exact Pp k l (j+1)
section
variable {P:Program} {r:Option Nat} {o:Oper} {e:Nat->D} {st:St} {K:D->St->Prop} {t kt et:TypeId} {b c:Nat} {key:MK} {l:List KE} {w:World}
def gZ (P:Program)(kt:TypeId)(w:World)(key:MK)(l:List KE):Prop :=
 (P.underlying kt=some (.int .i64)/\(∃n,key=.i n)/\∀e∈l,∃n,e.k=.i n) \/
 (∃el j,P.underlying kt=some (.pointer el)/\P.info? el=some j/\j.size≠0/\(∃b us ty,key=.p b/\w.heap[b]?=some (.cells us ty (0,0)))/\∀e∈l,∃b us ty,e.k=.p b/\w.heap[b]?=some (.cells us ty (0,0)))
def KeyS (P:Program)(kt:TypeId)(st:St)(key:MK)(l:List KE):Prop :=
 (P.underlying kt=some (.int .i64)/\(∃n,key=.i n)/\∀e∈l,∃n,e.k=.i n) \/
 (∃el j,P.underlying kt=some (.pointer el)/\P.info? el=some j/\j.size≠0/\(∃b ty cs,key=.p b/\Res.box b ty cs∈st)/\∀e∈l,∃b ty cs,e.k=.p b/\Res.box b ty cs∈st)
theorem KeyS.wld(h:KeyS P kt st key l)(hh:Holds st w):gZ P kt w key l:=by
 have hb:∀b ty cs,Res.box b ty cs∈st->∃us ty,w.heap[b]?=some (.cells us ty (0,0)):=λb ty cs hm=>by
  obtain⟨⟨us,h1, -⟩, -⟩:=hh.2 _ hm
  exact⟨us,ty,h1⟩
 rcases h with h|⟨el,j,h1,h2,h3,⟨b,ty,cs,h4,h5⟩,h6⟩
 . exact .inl h
 . refine .inr ⟨el,j,h1,h2,h3,?_,λe he=>?_⟩
   . obtain⟨us,ty,h⟩:=hb _ _ _ h5
     exact⟨b,us,ty,h4,h⟩
   . obtain⟨b,ty,cs,k1,k2⟩:=h6 e he
     obtain⟨us,ty,h⟩:=hb _ _ _ k2
     exact⟨b,us,ty,k1,h⟩
theorem Vv(n:Int):∀(l:List KE) (j:Nat),(∀e∈l,∃n,e.k=.i n)->Instr.findNow (.int .i64) (MK.i n).v (l.map KE.ent) j=some (KO (.i n) l j)
|[],_,_=>rfl
|e::l,j,h=>by
  obtain⟨m,hm⟩:=h e (Ag ..)
  have hs:Instr.sameNow (.int .i64) (.int .i64 n) (.int .i64 m)=some (n == m):=by simp[Instr.sameNow]
  have ih:=Vv n l (j+1) λe he=>h e (Ae _ he)
  rw[KO,hm,Au,Instr.findNow]
  show(match Instr.sameNow (.int .i64) (.int .i64 n) e.k.v with|some true=>_|some false=>_|none=>_)=_
  rw[hm]
  show(match Instr.sameNow (.int .i64) (.int .i64 n) (.int .i64 m)with|some true=>_|some false=>_|none=>_)=_
  rw[hs]
  by_cases hn:n=m
  . subst hn
    rw[if_pos rfl,show(n == n)=true from beq_self_eq_true n]
    rfl
  . rw[if_neg (λh=>hn (MK.i.inj h)),beq_eq_false_iff_ne.2 hn]
    exact ih
theorem eZ{el:TypeId}{j:TypeInfo}{a c:Nat}{ua uc:Array Value}{ta tc:TypeId}(h1:P.underlying kt=some (.pointer el))(h2:P.info? el=some j)(h3:j.size≠0)(ha:w.heap[a]?=some (.cells ua ta (0,0)))(hc:w.heap[c]?=some (.cells uc tc (0,0))):(Op.equal kt (MK.p a).v (MK.p c).v).run P w=.ok (decide (a=c)) w:=by
 by_cases h:a=c
 . subst h
   have hd:∀d:Nat,(Op.equalIn (d+1) kt (.pointer (some ⟨a,0,none⟩)) (.pointer (some ⟨a,0,none⟩))).run P w=.ok true w:=λd=>by
    simp[Op.equalIn,run_underlying h1,sizeOf,typeInfo,h2,run_sameAddr_same]
   rw[decide_eq_true rfl]
   exact hd 9999
 . have hne:(⟨a,0,none⟩:Addr)≠⟨c,0,none⟩:=λe=>h (by cases e;rfl)
   have hd:∀d:Nat,(Op.equalIn (d+1) kt (.pointer (some ⟨a,0,none⟩)) (.pointer (some ⟨c,0,none⟩))).run P w=.ok false w:=λd=>by
    simp[Op.equalIn,run_underlying h1,sizeOf,typeInfo,h2,h3,run_sameAddr_other w hne ha hc]
   rw[decide_eq_false h]
   exact hd 9999
theorem Vw{el:TypeId}{j:TypeInfo}{a:Nat}{ua:Array Value}{ta:TypeId}(h1:P.underlying kt=some (.pointer el))(h2:P.info? el=some j)(h3:j.size≠0)(ha:w.heap[a]?=some (.cells ua ta (0,0))):∀(l:List KE) (i:Nat),(∀e∈l,∃b us ty,e.k=.p b/\w.heap[b]?=some (.cells us ty (0,0)))->(Instr.findAsking kt (MK.p a).v (l.map KE.ent) i).run P w=.ok (KO (.p a) l i) w
|[],i,_=>rfl
|e::l,i,h=>by
  obtain⟨c,uc,tc,hm,hc⟩:=h e (Ag ..)
  have ih:=Vw h1 h2 h3 ha l (i+1) λe he=>h e (Ae _ he)
  have hq:=eZ h1 h2 h3 ha hc
  rw[Au,Instr.findAsking,KO,hm]
  have hk:e.ent.key=(MK.p c).v:=by rw[<-hm];rfl
  simp only[AG,hk,hq,Am]
  by_cases hn:a=c
  . subst hn
    simp only[decide_true,if_true,AN]
    rfl
  . rw[if_neg (λh=>hn (MK.p.inj h))]
    simp only[hn,decide_false,BN,if_false]
    exact ih
theorem Iv(h:gZ P kt w key l):(Instr.findKey kt key.v (l.map KE.ent)).run P w=.ok (KO key l 0) w:=by
 rcases h with⟨h1,⟨n,rfl⟩,h3⟩|⟨el,j,h1,h2,h3,⟨b,us,ty,rfl,h4⟩,h5⟩
 . exact Qh h1 (Vv n l 0 h3)
 . cases l with
   | nil=>exact Qh h1 rfl
   | cons e l =>
    obtain⟨c,uc,tc,hm,hc⟩:=h5 e (Ag ..)
    have hn:Instr.findNow (.pointer el) (MK.p b).v ((e::l).map KE.ent) 0=none:=by
     have hs:Instr.sameNow (.pointer el) (MK.p b).v e.ent.key=none:=by
      show Instr.sameNow (.pointer el) (MK.p b).v e.k.v=none
      rw[hm];rfl
     rw[Au,Instr.findNow,hs]
    unfold Instr.findKey
    simp only[AG,run_underlying h1,Am,hn]
    exact Vw h1 h2 h3 h4 (e::l) 0 h5
theorem GW(h:gZ P kt w key l)(em:Bool):(Instr.checkKey em 10000 kt key.v).run P w=.ok () w:=by
 rcases h with⟨h1,⟨n,rfl⟩,h3⟩|⟨el,j,h1,h2,h3,⟨b,us,ty,rfl,h4⟩,h5⟩
 . exact mq (k:=.int .i64 n) h1 (by simp[Go.MapKept.IsKey]) em 9999
 . have hd : ∀ n : Nat, (Instr.checkKey em (n + 1) kt (.pointer (some ⟨b, 0, none⟩))).run P w = .ok () w := λn => by
    simp[Instr.checkKey,run_underlying h1]
   exact hd 9999
theorem YU(k:MK):Instr.sameBits 10000 k.v k.v=true:=by
 have hd:∀n:Nat,Instr.sameBits (n+1) k.v k.v=true:=λn=>by cases k<;>simp[MK.v,Instr.sameBits]
 exact hd 9999
theorem Js(f:KE->MapEntry):∀(l:List KE) (i:Nat),(l.map f).eraseIdx i=(l.eraseIdx i).map f
|[],_=>rfl
|_::_,0=>rfl
|e::l,i+1=>by rw[Au,DY,DY,Au,Js f l i]
theorem Tf(ho:o.op=.makeMap t none)(h:∀b,K (.mp b) (Ic b [] 0::st)):OpC P r o e st K:=by
 refine DB (by rw[ho];intro c hc;cases hc) λρ w hr hh=>.inl ?_
 obtain⟨k1,k2⟩:=Io hh (.raw w.heap.size (.map #[] 0)) (λb e=>by cases e;rfl) (.map #[] 0) λhe=>heap_alloc_new w _
 unfold execOp
 rw[ho]
 exact⟨.map (some w.heap.size),_,rfl,.mp w.heap.size,_,.s _ rfl,k1,k2,h _⟩
theorem Tb{O:Nat->Nat->Prop}{v:Value}{k:MK}(h:Rep O w v k.d):v=k.v:=by
 cases k<;>(cases h;rfl)
theorem Pa{O:Nat->Nat->Prop}(x:Int)(q:Bool):Rep O w (.tuple #[.int .i64 x,.bool q]) (.tup [.i x,.b q]):=by
 have h:RepL O w [.int .i64 x,.bool q] [.i x,.b q]:=RepL.cons (.s _ rfl) (RepL.cons (.s _ rfl) .nil)
 exact .tup _ _ h.1 h.2
def lkD (l:List KE)(k:MK):D:=match Fa l k with
|some x=>.tup [.i x,.b true]
|none=>.tup [.i 0,.b false]
theorem UQ{x y:Operand}(ho:o.op=.lookup t x y true)(hx:ev e x=some (.mp b))(hy:ev e y=some key.d)(hm:Ic b l c∈st)(hu:P.underlying t=some (.map kt et))(hk:KeyS P kt st key l)(hz:(P.info? et).bind (·.zero)=some (.int .i64 0))(h:K (lkD l key) st):OpC P r o e st K:=by
 refine DB (by rw[ho];intro c hc;cases hc) λρ w hr hh=>.inl ?_
 have hp:=hr _ (by simp[ho,Op.operands]) _ hx
 have hv:=Tb (hr _ (by simp[ho,Op.operands]) _ hy)
 have hb:w.heap[b]?=some (GT l c):=hh.2 _ hm
 have hk:=hk.wld hh
 unfold execOp
 rw[ho]
 simp only
 rw[hv]
 generalize ρ x=p at hp
 cases hp
 have hz2:(zeroValue et).run P w=.ok (.int .i64 0) w:=by
  cases hi:P.info? et with
  | none=>rw[hi]at hz;cases hz
  | some i =>
   rw[hi]at hz
   simp only[BS]at hz
   simp[zeroValue,typeInfo,hi,hz]
 have hget:(getObj b).run P w=.ok (GT l c) w:=FD hb
 have hf:=Pp key l 0
 cases hq:KO key l 0 with
|none =>
  rw[hq]at hf
  have hl:Fa l key=none:=by cases hl:Fa l key with
   | none=>rfl
   | some x=>rw[hl]at hf;cases hf
  refine⟨.tuple #[.int .i64 0,.bool false],w,?_,lkD l key,st,?_,hh,Ext.refl _ _,h⟩
  . simp[Instr.lookup,run_underlying hu,hget,GT,GW hk,Iv hk,hq,hz2]
  . unfold lkD
    rw[hl]
    exact Pa _ _
|some q =>
  obtain⟨i,v⟩:=q
  rw[hq]at hf
  obtain⟨x,hl,rfl⟩:∃x,Fa l key=some x/\v=.int .i64 x:=by cases hl:Fa l key with
   | none=>rw[hl]at hf;cases hf
   | some x=>rw[hl]at hf;cases hf;exact⟨x,rfl,rfl⟩
  refine⟨.tuple #[.int .i64 x,.bool true],w,?_,lkD l key,st,?_,hh,Ext.refl _ _,h⟩
  . simp[Instr.lookup,run_underlying hu,hget,GT,GW hk,Iv hk,hq]
  . unfold lkD
    rw[hl]
    exact Pa _ _
theorem Pk{x y z:Operand}{s1:St}{n:Int}(ho:o.op=.mapUpdate t x y z)(hx:ev e x=some (.mp b))(hy:ev e y=some key.d)(hz:ev e z=some (.i n))(hm:ResAt (Ic b l c) (Ic b (ET l c key n).1 (ET l c key n).2) st s1)(hu:P.underlying t=some (.map kt et))(hk:KeyS P kt st key l)(h:K D.un s1):OpC P r o e st K:=by
 refine DB (by rw[ho];intro c hc;cases hc) λρ w hr hh=>.inr ?_
 have hp:=hr _ (by simp[ho,Op.operands]) _ hx
 have hv:=Tb (hr _ (by simp[ho,Op.operands]) _ hy)
 have hzv:=hr _ (by simp[ho,Op.operands]) _ hz
 have hk:=hk.wld hh
 obtain⟨s0,p1,p2⟩:=hm.perm
 have hh':=hh.perm p1
 have hb:w.heap[b]?=some (GT l c):=hh'.2 _ (Ag ..)
 unfold execOp
 rw[ho]
 simp only
 rw[hv]
 generalize ρ x=p at hp
 generalize ρ z=u at hzv
 cases hp
 cases hzv
 have hget:(getObj b).run P w=.ok (GT l c) w:=FD hb
 have hset:∀o,(setObj b o).run P w=.ok () (w.putObj b o):=λo=>Nb o hb
 obtain⟨q1,q2⟩:=Ox (o':=GT (ET l c key n).1 (ET l c key n).2) hh' (λc E fr h=>by cases h)
 refine⟨_,?_,D.un,s1,.s undef rfl,q1.perm p2.symm,q2.perm p1 p2,h⟩
 have hf:=NA key l 0
 simp only[Instr.mapUpdate,AG,run_underlying hu,Am,hget,GT,GW hk,Iv hk]
 cases hi:l.findIdx? (λe=>decide (key=e.k))with
|none =>
  rw[hi,Option.bind_none]at hf
  have hkp:ET l c key n=(l++[⟨key,n,c⟩],c+1):=by unfold ET;rw[hi]
  rw[hf,hkp]
  simp[hset,GT,KE.ent]
|some i =>
  have hlt:i<l.length:=by
   obtain⟨h1, -⟩:=BW.1 hi
   exact h1
  have hsome:l[i]?=some l[i]:=Al hlt
  have hek:key=l[i].k:=by
   obtain⟨h1,h2, -⟩:=BW.1 hi
   exact of_decide_eq_true h2
  rw[hi,BS,hsome,CK,Bo]at hf
  have hkp:ET l c key n=(l.modify i λe=>⟨key,n,e.born⟩,c):=by unfold ET;rw[hi]
  have hmod:(l.map KE.ent).modify i (λe=>{e with key:=key.v,val:=.int .i64 n})=(l.modify i λe=>⟨key,n,e.born⟩).map KE.ent:=by
   apply Cx
   intro j
   rw[FJ,Aq,Aq,FJ]
   by_cases hj:i=j
   . subst hj
     rw[hsome]
     simp[KE.ent]
   . simp[hj]
  have hke:l[i].ent.key=key.v:=by rw[hek];rfl
  rw[hf,hkp]
  simp[hsome,hke,Instr.keyThatStays,YU,hset,hmod,GT]
theorem Un{argTypes:Array TypeId}{ty:TypeId}(hb:w.heap[b]?=some (GT l c))(hat:argTypes[0]?=some t)(hu:P.underlying t=some (.map kt et))(hk:gZ P kt w key l):(Builtin.delete_ argTypes ty #[.map (some b),key.v]).run P w=.ok (.tuple #[]) (w.putObj b (GT (IV l key) c)):=by
 have hget:(getObj b).run P w=.ok (GT l c) w:=FD hb
 have hset:∀o,(setObj b o).run P w=.ok () (w.putObj b o):=λo=>Nb o hb
 have hf:=NA key l 0
 cases hi:l.findIdx? (λe=>decide (key=e.k))with
|none =>
  rw[hi,Option.bind_none]at hf
  have hkp:IV l key=l:=by unfold IV;rw[hi]
  rw[hkp]
  simp[Builtin.delete_,hat,run_underlying hu,hget,GT,GW hk,Iv hk,hf,hset]
|some i =>
  have hlt:i<l.length:=by
   obtain⟨h1, -⟩:=BW.1 hi
   exact h1
  have hsome:l[i]?=some l[i]:=Al hlt
  rw[hi,BS,hsome,CK,Bo]at hf
  have hkp:IV l key=l.eraseIdx i:=by unfold IV;rw[hi]
  have her:(l.map KE.ent).toArray.eraseIdxIfInBounds i=((l.eraseIdx i).map KE.ent).toArray:=by
   apply Ke
   rw[Array.toList_eraseIdxIfInBounds]
   exact Js _ _ _
  rw[hkp]
  simp[Builtin.delete_,hat,run_underlying hu,hget,GT,GW hk,Iv hk,hf,hset,Js]
end
end
section
def kmT (P:Program)(t:TypeId):Option TypeId :=
 match P.underlying t with
|some (.map kt et)=>(match (P.info? et).bind (·.zero)with|some (.int .i64 0)=>some kt|_=>none)
|_=>none
theorem KN{P:Program}{t kt:TypeId}(h:kmT P t=some kt):∃et,P.underlying t=some (.map kt et)/\(P.info? et).bind (·.zero)=some (.int .i64 0):=by
 unfold kmT at h
 split at h
 . rename_i kt' et hu
   split at h
   . rename_i hz
     cases h
     exact⟨et,hu,hz⟩
   . cases h
 . cases h
def fV (P:Program)(kt:TypeId):Option Bool :=
 match P.underlying kt with
|some (.int .i64)=>some false
|some (.pointer el)=>(P.info? el).bind λj=>if j.size≠0 then some true else none
|_=>none
def dX (st:St)(b:Nat):Prop:=∃ty cs,Res.box b ty cs∈st
theorem Hp{P:Program}{kt:TypeId}{st:St}{n:Int}{l:List KE}(h:fV P kt=some false)(hl:∀e∈l,∃n,e.k=.i n):KeyS P kt st (.i n) l:=by
 unfold fV at h
 split at h
 . rename_i hu
   exact .inl ⟨hu,⟨n,rfl⟩,hl⟩
 . rename_i el hu
   cases hi:P.info? el with
   | none=>rw[hi]at h;cases h
   | some j=>rw[hi,BS]at h;split at h<;>cases h
 . cases h
theorem KQ{P:Program}{kt:TypeId}{st:St}{b:Nat}{l:List KE}(h:fV P kt=some true)(hb:dX st b)(hl:∀e∈l,∃b,e.k=.p b/\dX st b):KeyS P kt st (.p b) l:=by
 unfold fV at h
 split at h
 . cases h
 . rename_i el hu
   cases hi:P.info? el with
   | none=>rw[hi]at h;cases h
   | some j =>
    rw[hi,BS]at h
    split at h
    . rename_i hs
      obtain⟨ty,cs,hm⟩:=hb
      exact .inr ⟨el,j,hu,hi,hs,⟨b,ty,cs,rfl,hm⟩,λe he=>by
       obtain⟨b,h1,ty,cs,h2⟩:=hl e he
       exact⟨b,ty,cs,h1,h2⟩⟩
    . cases h
 . cases h
section
variable {P:Program} {r:Option Nat} {m:Option Ro} {A:AA} {st:St} {k:D->St->Prop} {dst:Option Tmp} {ty:TypeId} {pos:String} {aft:Array Edge} {gd:Option (Nat×Bool)} {t:TypeId} {b c:Nat} {l:List KE} {o:Oper} {e:Nat->D} {K:D->St->Prop}
theorem Ww{x y:Operand}{s1:St}{key:MK}{kt et t2:TypeId}(ho:o.op=.call ⟨.builtin .delete,#[x,y],#[t,t2]⟩)(hx:ev e x=some (.mp b))(hy:ev e y=some key.d)(hm:ResAt (Ic b l c) (Ic b (IV l key) c) st s1)(hu:P.underlying t=some (.map kt et))(hk:KeyS P kt st key l)(h:K (.tup []) s1):OpC P r o e st K:=by
 refine DB (by rw[ho];intro c hc;cases hc) λρ w hr hh=>.inl ?_
 have hp:=hr _ (by simp[ho,Op.operands,Call.operands]) _ hx
 have hv:=Tb (hr _ (by simp[ho,Op.operands,Call.operands]) _ hy)
 have hk:=hk.wld hh
 obtain⟨s0,p1,p2⟩:=hm.perm
 have hh':=hh.perm p1
 have hb:w.heap[b]?=some (GT l c):=hh'.2 _ (Ag ..)
 have hpx:ρ x=.map (some b):=by
  generalize ρ x=p at hp
  cases hp
  rfl
 obtain⟨q1,q2⟩:=Ox (o':=GT (IV l key) c) hh' (λc E fr h=>by cases h)
 refine⟨.tuple #[],_,?_,.tup [],s1,.tup [] [] rfl (λi h=>absurd h (BL _)),q1.perm p2.symm,q2.perm p1 p2,h⟩
 unfold execOp
 rw[ho]
 simp only[resolve,invoke,builtin,AG,AN,Am,Gg,Au,BH,hpx,hv]
 show((Builtin.delete_ #[t,t2] o.type #[.map (some b),key.v]).run P w).andThen _=_
 rw[Un hb rfl hu hk]
 rfl
theorem OS(h:∀b,CZ m (Ic b [] 0::st)/\k (.mp b) (Ic b [] 0::st)):S P r m ⟨dst,.makeMap t none,ty,pos,aft,gd⟩ A st k :=
 Ek (R:=λd s=>∃b,d=.mp b/\s=Ic b [] 0::st) rfl (Tf rfl λb=>⟨b,rfl,rfl⟩) ⟨_,_,0,rfl,rfl⟩ λd s ⟨b,e1,e2⟩=>by subst e1 e2;exact h b
theorem Re{x y:Operand}{key:MK}{kt:TypeId}(hx:ev A.e x=some (.mp b))(hy:ev A.e y=some key.d)(hm:Ic b l c∈st)(ht:kmT P t=some kt)(hk:KeyS P kt st key l)(h:CZ m st/\k (lkD l key) st):S P r m ⟨dst,.lookup t x y true,ty,pos,aft,gd⟩ A st k:=by
 obtain⟨et,t1,t2⟩:=KN ht
 exact Ek (R:=λd s=>d=lkD l key/\s=st) rfl (UQ rfl hx hy hm t1 hk t2 ⟨rfl,rfl⟩) ⟨_,_,rfl,rfl⟩ λd s ⟨e1,e2⟩=>by subst e1 e2;exact h
theorem My{x y z:Operand}{key:MK}{kt:TypeId}{n:Int}{s1:St}(hx:ev A.e x=some (.mp b))(hy:ev A.e y=some key.d)(hz:ev A.e z=some (.i n))(hm:ResAt (Ic b l c) (Ic b (ET l c key n).1 (ET l c key n).2) st s1)(ht:kmT P t=some kt)(hk:KeyS P kt st key l)(h:CZ m s1/\k D.un s1):S P r m ⟨dst,.mapUpdate t x y z,ty,pos,aft,gd⟩ A st k:=by
 obtain⟨et,t1, -⟩:=KN ht
 exact Ek (R:=λd s=>d=D.un/\s=s1) rfl (Pk rfl hx hy hz hm t1 hk ⟨rfl,rfl⟩) ⟨_,_,rfl,rfl⟩ λd s ⟨e1,e2⟩=>by subst e1 e2;exact h
theorem Um{x y:Operand}{key:MK}{kt t2:TypeId}{s1:St}(hx:ev A.e x=some (.mp b))(hy:ev A.e y=some key.d)(hm:ResAt (Ic b l c) (Ic b (IV l key) c) st s1)(ht:kmT P t=some kt)(hk:KeyS P kt st key l)(h:CZ m s1/\k (.tup []) s1):S P r m ⟨dst,.call ⟨.builtin .delete,#[x,y],#[t,t2]⟩,ty,pos,aft,gd⟩ A st k:=by
 obtain⟨et,t1, -⟩:=KN ht
 exact Ek (R:=λd s=>d=.tup []/\s=s1) rfl (Ww rfl hx hy hm t1 hk ⟨rfl,rfl⟩) ⟨_,_,rfl,rfl⟩ λd s ⟨e1,e2⟩=>by subst e1 e2;exact h
end
section
variable {P:Program} {r:Option Nat} {A:AA} {st:St} {k:D->St->Prop} {dst:Option Tmp} {ty:TypeId} {pos:String} {aft:Array Edge} {gd:Option (Nat×Bool)} {t t' kt:TypeId} {x:Operand}
theorem Uj{mv:Option Nat}(ht:kmT P t=some kt)(hx:ev A.e x=some (.s (.map mv)))(hk:k (.b mv.isNone) st):S P r none ⟨dst,.binOp .eql t x (.const (.map none)) t',ty,pos,aft,gd⟩ A st k:=by
 refine DB (by intro c hc;cases hc) λρ w hr hh=>.inl ?_
 have hv1:=DI (hr _ (by simp[Op.operands]) _ hx)
 have hv2:=hr.cst (.map none)
 obtain⟨et,hu, -⟩:=KN ht
 refine⟨.bool mv.isNone,w,?_,_,_,.s (.bool mv.isNone) rfl,hh,Ext.refl _ _,hk⟩
 unfold execOp
 have hd:∀d:Nat,(Op.equalIn (d+1) t (.map mv) (.map none)).run P w=.ok mv.isNone w:=λd=>by cases mv<;>simp[Op.equalIn,run_underlying hu]
 have hrun:(binOp .eql t (.map mv) (.map none)).run P w=.ok (.bool mv.isNone) w:=by
  simp only[binOp]
  simp[Op.equal,Op.maxDepth,hd 9999]
 simp only[hv1,hv2,AG,Dt .eql t x (.const (.map none)) (.map mv) (.map none) (λu=>by simp) (λu v=>by simp),hrun,Am,AN]
def UH (P:Program)(t:TypeId):Bool:=match P.underlying t with
|some (.pointer el)=>el == P.pointee t
|_=>false
theorem Rp(h:UH P t=true):P.underlying t=some (.pointer (P.pointee t)):=by
 unfold UH at h
 split at h
 . rename_i el hu
   rw[hu,beq_iff_eq.1 h]
 . cases h
def fF:D->Option (Option Addr)
|.ptr b off=>some (some ⟨b,off,none⟩)
|.s (.pointer none)=>some none
|_=>none
theorem Uv{O:Nat->Nat->Prop}{w:World}{v:Value}{d:D}{a:Option Addr}(h:Rep O w v d)(ha:fF d=some a):v=.pointer a:=by
 unfold fF at ha
 split at ha
 . cases ha;cases h;rfl
 . cases ha;cases h;rfl
 . cases ha
theorem XH{d:D}{a:Option Addr}(ht:UH P t=true)(hx:ev A.e x=some d)(ha:fF d=some a)(hk:k (.b a.isSome) st):S P r none ⟨dst,.binOp .neq t x (.const (.pointer none)) t',ty,pos,aft,gd⟩ A st k:=by
 refine DB (by intro c hc;cases hc) λρ w hr hh=>.inl ?_
 have hv1:=Uv (hr _ (by simp[Op.operands]) _ hx) ha
 have hv2:=hr.cst (.pointer none)
 have hu:=Rp ht
 refine⟨.bool a.isSome,w,?_,_,_,.s (.bool a.isSome) rfl,hh,Ext.refl _ _,hk⟩
 unfold execOp
 have hd:∀d:Nat,(Op.equalIn (d+1) t (.pointer a) (.pointer none)).run P w=.ok a.isNone w:=λd=>by cases a<;>simp[Op.equalIn,run_underlying hu]
 have hrun:(binOp .neq t (.pointer a) (.pointer none)).run P w=.ok (.bool a.isSome) w:=by
  simp only[binOp]
  simp[Op.equal,Op.maxDepth,hd 9999]
 simp only[hv1,hv2,AG,Dt .neq t x (.const (.pointer none)) (.pointer a) (.pointer none) (λu=>by simp) (λu v=>by simp),hrun,Am,AN]
theorem XI{d:D}{a:Option Addr}(ht:UH P t=true)(hx:ev A.e x=some d)(ha:fF d=some a)(hk:k (.b a.isNone) st):S P r none ⟨dst,.binOp .eql t x (.const (.pointer none)) t',ty,pos,aft,gd⟩ A st k:=by
 refine DB (by intro c hc;cases hc) λρ w hr hh=>.inl ?_
 have hv1:=Uv (hr _ (by simp[Op.operands]) _ hx) ha
 have hv2:=hr.cst (.pointer none)
 have hu:=Rp ht
 refine⟨.bool a.isNone,w,?_,_,_,.s (.bool a.isNone) rfl,hh,Ext.refl _ _,hk⟩
 unfold execOp
 have hd:∀d:Nat,(Op.equalIn (d+1) t (.pointer a) (.pointer none)).run P w=.ok a.isNone w:=λd=>by cases a<;>simp[Op.equalIn,run_underlying hu]
 have hrun:(binOp .eql t (.pointer a) (.pointer none)).run P w=.ok (.bool a.isNone) w:=by
  simp only[binOp]
  simp[Op.equal,Op.maxDepth,hd 9999]
 simp only[hv1,hv2,AG,Dt .eql t x (.const (.pointer none)) (.pointer a) (.pointer none) (λu=>by simp) (λu v=>by simp),hrun,Am,AN]
end
structure MRep (l:List KE)(K:List MK):Prop where
 nd:(l.map KE.k).Nodup
 at_:∀(k:MK) (x:Int),Fa l k=some x↔∃j:Nat,x=j/\K[j]?=some k
theorem Lh{l:List KE}{k:MK}{x:Int}(h:Fa l k=some x):∃e∈l,e.k=k/\e.x=x:=by
 unfold Fa at h
 cases hf:l.find? (λe=>decide (k=e.k))with
|none=>rw[hf] at h;cases h
|some e =>
  rw[hf]at h
  have h1:=FE hf
  exact⟨e,CI hf,(of_decide_eq_true h1).symm,Cl h⟩
theorem Fr{l:List KE}{e:KE}(h:(l.map KE.k).Nodup)(he:e∈l):Fa l e.k=some e.x:=by
 unfold Fa
 induction l with
|nil=>cases he
|cons a l ih =>
  rw[Au,Bb]at h
  rw[GA]
  rcases Ax.1 he with rfl|he
  . rw[decide_eq_true rfl];rfl
  . have:e.k≠a.k:=λe1=>h.1 (e1▸BJ he)
    rw[decide_eq_false this]
    exact ih h.2 he
theorem EJ{l:List KE}{k:MK}:Fa l k=none↔∀e∈l,e.k≠k:=by
 unfold Fa
 rw[Qd,Dr]
 exact⟨λh e he e1=>h e he (decide_eq_true e1.symm),λh e he e1=>h e he (of_decide_eq_true e1).symm⟩
theorem cK{l:List KE}{c:Nat}{k:MK}{x:Int}(h:Fa l k=none):ET l c k x=(l++[⟨k,x,c⟩],c+1):=by
 have hn:l.findIdx? (λe=>decide (k=e.k))=none:=MZ.2 λe he=>decide_eq_false λe1=>EJ.1 h e he e1.symm
 unfold ET
 rw[hn]
theorem Nz{l:List KE}{c:Nat}{k:MK}{x:Int}(h:(l.map KE.k).Nodup):((ET l c k x).1.map KE.k).Nodup/\∀k',Fa (ET l c k x).1 k'=if k'=k then some x else Fa l k':=by
 cases hi:l.findIdx? (λe=>decide (k=e.k))with
|none =>
  have hkn:Fa l k=none:=EJ.2 λe he e1=>by
   have:=MZ.1 hi e he
   rw[decide_eq_true e1.symm]at this
   cases this
  rw[cK hkn]
  have hnd:((l++[⟨k,x,c⟩]:List KE).map KE.k).Nodup:=by
   rw[Bi,FG]
   refine⟨h,Bb.2 ⟨AP,CA⟩,?_⟩
   rintro a ha b hb rfl
   obtain⟨e,he,rfl⟩:=Av.1 ha
   exact EJ.1 hkn e he (AB.1 hb)
  refine⟨hnd,λk'=>?_⟩
  by_cases hk:k'=k
  . rw[if_pos hk,hk]
    exact Fr (e:=⟨k,x,c⟩) hnd (Bh _ (AB.2 rfl))
  . rw[if_neg hk]
    cases hl:Fa l k' with
    | none =>
     exact EJ.2 λe he e1=>(Bc.1 he).elim (λhe=>EJ.1 hl e he e1) λhe=>by
      rw[AB.1 he]at e1
      exact hk e1.symm
    | some y =>
     obtain⟨e,he,rfl,rfl⟩:=Lh hl
     exact Fr hnd (Bp _ he)
|some i =>
  have hlt:i<l.length:=(BW.1 hi).1
  have hek:k=l[i].k:=of_decide_eq_true (BW.1 hi).2.1
  have hkp:ET l c k x=(l.modify i λe=>⟨k,x,e.born⟩,c):=by unfold ET;rw[hi]
  rw[hkp]
  dsimp only
  have hks:(l.modify i λe=>⟨k,x,e.born⟩).map KE.k=l.map KE.k:=by
   apply Cx
   intro j
   rw[Aq,Aq,FJ]
   by_cases hj:i=j
   . subst hj
     rw[Al hlt]
     simp only[if_true,Nh,CK]
     exact congrArg some hek
   . simp only[if_neg hj,Nh]
     cases l[j]?<;>rfl
  have hnd:((l.modify i λe=>⟨k,x,e.born⟩).map KE.k).Nodup:=by rw[hks];exact h
  refine⟨hnd,λk'=>?_⟩
  have hgi:(l.modify i λe=>⟨k,x,e.born⟩)[i]?=some ⟨k,x,l[i].born⟩:=by
   rw[FJ,Al hlt];simp only[if_true,Nh,CK]
  by_cases hk:k'=k
  . rw[if_pos hk,hk]
    exact Fr (e:=⟨k,x,l[i].born⟩) hnd (Ah hgi)
  . rw[if_neg hk]
    cases hl:Fa l k' with
    | none =>
     refine EJ.2 λe he e1=>?_
     have:e.k∈l.map KE.k:=hks▸BJ he
     obtain⟨e',he',e2⟩:=Av.1 this
     exact EJ.1 hl e' he' (e2.trans e1)
    | some y =>
     obtain⟨e,he,rfl,rfl⟩:=Lh hl
     obtain⟨j,hj,rfl⟩:=Df he
     have hij:i≠j:=λe1=>hk (by subst e1;exact hek.symm)
     have hgj:(l.modify i λe=>⟨k,x,e.born⟩)[j]?=some l[j]:=by
      rw[FJ,Al hj];simp only[if_neg hij,Nh,CK]
     exact Fr hnd (Ah hgj)
theorem ZV{l:List KE}{k:MK}(h:(l.map KE.k).Nodup):((IV l k).map KE.k).Nodup/\∀k',Fa (IV l k) k'=if k'=k then none else Fa l k':=by
 have hsub:(IV l k).Sublist l:=by
  unfold IV
  split
  . exact List.eraseIdx_sublist ..
  . exact .refl _
 have hnd:((IV l k).map KE.k).Nodup:=h.sublist (hsub.map _)
 have hmem:∀e∈l,e.k≠k->e∈IV l k:=λe he hne=>by
  unfold IV
  split
  . rename_i i hi
    have hlt:i<l.length:=(BW.1 hi).1
    have hek:k=l[i].k:=of_decide_eq_true (BW.1 hi).2.1
    obtain⟨j,hj,rfl⟩:=Df he
    have hij:j≠i:=λe1=>hne (by subst e1;exact hek.symm)
    exact ed.2 ⟨j,hj,hij,rfl⟩
  . exact he
 have hnot:∀e∈IV l k,e.k≠k:=λe he e1=>by
  unfold IV at he
  split at he
  . rename_i i hi
    have hlt:i<l.length:=(BW.1 hi).1
    have hek:k=l[i].k:=of_decide_eq_true (BW.1 hi).2.1
    obtain⟨j,hj,hij,rfl⟩:=ed.1 he
    have h1:(l.map KE.k)[j]?=(l.map KE.k)[i]?:=by
     rw[Aq,Aq,Al hj,Al hlt]
     exact congrArg some (e1.trans hek)
    exact hij ((Jv (by rw[Ab];exact hj) h).1 h1)
  . rename_i hi
    have:=MZ.1 hi e he
    rw[decide_eq_true e1.symm]at this
    cases this
 refine⟨hnd,λk'=>?_⟩
 by_cases hk:k'=k
 . rw[if_pos hk,hk]
   exact EJ.2 hnot
 . rw[if_neg hk]
   cases hl:Fa l k' with
   | none=>exact EJ.2 λe he=>EJ.1 hl e (hsub.subset he)
   | some y =>
    obtain⟨e,he,rfl,rfl⟩:=Lh hl
    exact Fr hnd (hmem e he hk)
theorem MRep.nil:MRep [] []:=⟨CA,λk x=>⟨λh=>(by cases h),λ⟨j,_,h⟩=>by cases h⟩⟩
theorem MRep.nodup{l:List KE}{K:List MK}(h:MRep l K):K.Nodup:=by
 refine FA.2 λi j hi hj hij e=>?_
 have h1:=(h.at_ K[i] i).2 ⟨i,rfl,Al hi⟩
 have h2:=(h.at_ K[i] j).2 ⟨j,rfl,by rw[Al hj,e]⟩
 rw[h1]at h2
 have:(i:Int)=j:=Cl h2
 omega
theorem MRep.look{l:List KE}{K:List MK}(h:MRep l K){k:MK}{j:Nat}(hk:K[j]?=some k):Fa l k=some (j:Int):=(h.at_ k j).2 ⟨j,rfl,hk⟩
theorem MRep.none{l:List KE}{K:List MK}(h:MRep l K){k:MK}(hk:k∉K):Fa l k=none:=by
 cases hl:Fa l k with
|none=>rfl
|some x =>
  obtain⟨j, -,h2⟩:=(h.at_ k x).1 hl
  exact absurd (Ah h2) hk
theorem MRep.keys{l:List KE}{K:List MK}(h:MRep l K):∀e∈l,e.k∈K:=λe he=>by
 obtain⟨j, -,h2⟩:=(h.at_ e.k e.x).1 (Fr h.nd he)
 exact Ah h2
theorem MRep.put{l:List KE}{K:List MK}(h:MRep l K){k:MK}(c:Nat)(hk:k∉K):MRep (ET l c k K.length).1 (K++[k]):=by
 obtain⟨h1,h2⟩:=Nz (c:=c) (k:=k) (x:=K.length) h.nd
 refine⟨h1,λk' x=>?_⟩
 rw[h2]
 by_cases e:k'=k
 . subst e
   rw[if_pos rfl]
   constructor
   . intro e;cases e;exact⟨K.length,rfl,by simp⟩
   . rintro⟨j,rfl,hj⟩
     rcases Ni j K.length with hlt|rfl|hgt
     . rw[Ba hlt]at hj
       exact absurd (Ah hj) hk
     . rfl
     . rw[Bz (by rw[Ad,BE];omega)]at hj
       cases hj
 . rw[if_neg e,h.at_]
   constructor
   . rintro⟨j,rfl,hj⟩
     exact⟨j,rfl,by rw[Ba (Af.1 hj).1];exact hj⟩
   . rintro⟨j,rfl,hj⟩
     refine⟨j,rfl,?_⟩
     rcases Ni j K.length with hlt|rfl|hgt
     . rwa[Ba hlt]at hj
     . rw[BP (Ap _),Gu]at hj
       exact absurd (Cl hj).symm e
     . rw[Bz (by rw[Ad,BE];omega)]at hj
       cases hj
def Cz {α:Type}(K:List α)(i:Nat)(z:α):List α:=(K.set i z).take (K.length - 1)
theorem Jy{α:Type}{K:List α}{i:Nat}{z:α}(hi:i<K.length)(hz:K[K.length - 1]?=some z)(j:Nat):(Cz K i z)[j]?=if j<K.length - 1 then(if j=i then some z else K[j]?)else none:=by
 unfold Cz
 rw[Dq]
 split
 . rw[GN]
   by_cases e:i=j
   . rw[if_pos e,if_pos e.symm,if_pos q_o]
   . rw[if_neg e,if_neg λh=>e h.symm]
 . rfl
theorem MRep.drop{l:List KE}{K:List MK}(h:MRep l K){k z:MK}{i:Nat}(c:Nat)(hi:K[i]?=some k)(hz:K[K.length - 1]?=some z):MRep (IV (ET l c z i).1 k) (Cz K i z):=by
 obtain⟨h1,h2⟩:=Nz (c:=c) (k:=z) (x:=i) h.nd
 obtain⟨h3,h4⟩:=ZV (k:=k) h1
 have hlt:=(Af.1 hi).1
 have hnd:=h.nodup
 have inj:∀{a b:Nat} {y:MK},K[a]?=some y->K[b]?=some y->a=b:=λ{a b y} ha hb=>(Jv (Af.1 ha).1 hnd).1 (ha.trans hb.symm)
 refine⟨h3,λk' x=>?_⟩
 rw[h4,h2]
 by_cases e:k'=k
 . subst e
   rw[if_pos rfl]
   refine⟨λh=>(by cases h),?_⟩
   rintro⟨j,rfl,hj⟩
   rw[Jy hlt hz]at hj
   split at hj
   . split at hj
     . rename_i h5 h6
       rw[hj]at hz
       have:=inj hz hi
       omega
     . rename_i h5 h6
       exact absurd (inj hj hi) h6
   . cases hj
 . rw[if_neg e]
   by_cases ez:k'=z
   . subst ez
     rw[if_pos rfl]
     have hne:i≠K.length - 1:=λh5=>e (by
      rw[<-h5,hi]at hz
      exact(Cl hz).symm)
     constructor
     . intro h5;cases h5
       exact⟨i,rfl,by rw[Jy hlt hz,if_pos q_o,if_pos rfl]⟩
     . rintro⟨j,rfl,hj⟩
       rw[Jy hlt hz]at hj
       split at hj
       . split at hj
         . rename_i h5 h6;rw[h6]
         . rename_i h5 h6
           have:=inj hj hz
           omega
       . cases hj
   . rw[if_neg ez,h.at_]
     constructor
     . rintro⟨j,rfl,hj⟩
       have hji:j≠i:=λh5=>e (by rw[h5,hi]at hj;exact(Cl hj).symm)
       have hjn:j≠K.length - 1:=λh5=>ez (by rw[h5,hz]at hj;exact(Cl hj).symm)
       have hjl:=(Af.1 hj).1
       exact⟨j,rfl,by rw[Jy hlt hz,if_pos q_o,if_neg hji];exact hj⟩
     . rintro⟨j,rfl,hj⟩
       rw[Jy hlt hz]at hj
       split at hj
       . split at hj
         . exact absurd (Cl hj).symm ez
         . exact⟨j,rfl,hj⟩
       . cases hj
end
section
section
variable {P:Program} {st:St} {w:World}
theorem TT{z:Array Value}{n:Nat}(hz:0<z.size):∀v∈(Builtin.zeroCells z n).toList,v∈z.toList:=by
 intro v hv
 unfold Builtin.zeroCells at hv
 rw[Array.toList_map,Av]at hv
 obtain⟨i, -,rfl⟩:=hv
 have hlt:i % z.size<z.size:=Nat.mod_lt _ hz
 rw[getElem!_pos z _ hlt]
 exact Array.getElem_mem_toList hlt
def zOk (v:Value):Bool:=GI v && (Dm v).leaf
theorem Xw{O:Nat->Nat->Prop}{us:List Value}(h:∀v∈us,zOk v=true):RepL O w us (us.map Dm)/\∀d∈us.map Dm,d.leaf=true:=by
 have h1:∀v∈us,GI v=true/\(Dm v).leaf=true:=λv hv=>by
  have:=h v hv
  unfold zOk at this
  rwa[AF]at this
 refine⟨?_,λd hd=>?_⟩
 . have:=RepL.map (O:=O) (w:=w) (l:=us) (f:=id) (g:=Dm) (λx hx=>Lg (h1 x hx).1)
   rwa[ee]at this
 . obtain⟨v,hv,rfl⟩:=Av.1 hd
   exact(h1 v hv).2
theorem fN{g : Nat}{e:TypeId}{cs:List D}{s0:St}(h:Holds (.box g e cs::s0) w){us:List Value}{cs':List D}(hr:RepL (OwnS (.box g e cs::s0)) w us cs')(hl:∀d∈cs',d.leaf=true) :
 Holds (.box w.heap.size e cs'::s0) (w.drew.alloc (.cells us.toArray e))/\Ext (OwnS (.box g e cs::s0)) w (OwnS (.box w.heap.size e cs'::s0)) (w.drew.alloc (.cells us.toArray e)):=by
 have he:=Ext.drewN (OwnS (.box g e cs::s0)) w 1
 have:=MF (h.drewN 1) e (hr.ext he) hl
 have hs:(Res.box w.heap.size e cs'::s0).Sublist (.box w.heap.size e cs'::.box g e cs::s0):=(AK _ _).cons₂ _
 exact⟨this.1.sub hs,(he.trans this.2).trans (Ext.drop (λ_ h=>hs.subset h) _)⟩
theorem Qq(T ty e:TypeId){i:TypeInfo}{zv:Value}(hd:P.underlying T=some (.slice e))(hi:P.info? e=some i)(hzv:i.zero=some zv)(hzs:zv.cells.size=i.size)(hsz:0<i.size)(hz:∀v∈zv.cells.toList,zOk v=true)
 {g n cap:Nat}{ds zs:List D}{s0:St}(h:Holds (.box g e (ds++zs)::s0) w)(hn:n<=cap)(hc:cap<=maxLen)(hds:ds.length=n*i.size)(hl:(ds++zs).length=cap*i.size)
 {xad:Addr}{m xcap:Nat}{news:List Value}{yd:List D}(hnl:news.length=m*i.size)(hnews:∀j u,news[j]?=some u->w.cell? (xad.add j)=some u)(hrep:RepL (OwnS (.box g e (ds++zs)::s0)) w news yd)(hleaf:∀d∈yd,d.leaf=true)
 (hb:(n+m)*i.bytes<=140737488355328)(hm:n+m<=140737488355328) :
 ∃w' g' cap' zs',(Builtin.append_ #[T,T] ty #[.slice (some ⟨g,0,none⟩) n cap,.slice (some xad) m xcap]).run P w=.ok (.slice (some ⟨g',0,none⟩) (n+m) cap') w'/\n+m<=cap'/\cap'<=maxLen/\(ds++yd++zs').length=cap'*i.size /\
  Holds (.box g' e (ds++yd++zs')::s0) w'/\Ext (OwnS (.box g e (ds++zs)::s0)) w (OwnS (.box g' e (ds++yd++zs')::s0)) w':=by
 obtain⟨⟨cur,hg,hr⟩,hlc⟩:=h.2 _ (Ag ..)
 have hcs:cur.toList.length=cap*i.size:=hr.1.trans hl
 have hyl:yd.length=m*i.size:=hrep.1.symm.trans hnl
 have hmul:n*i.size+m*i.size=(n+m)*i.size:=(FF ..).symm
 have htk:RepL (OwnS (.box g e (ds++zs)::s0)) w (cur.toList.take (n*i.size)) ds:=by
  have:=hr.take (n*i.size)
  rwa[CH q_o,Bj (l:=ds) q_o]at this
 have hdl:∀d∈ds,d.leaf=true:=λd hd=>hlc d (Bp _ hd)
 have hzl:∀d∈zs,d.leaf=true:=λd hd=>hlc d (Bh _ hd)
 by_cases hroom:n+m<=cap
 . have hle:(n+m)*i.size<=cap*i.size:=CM _ hroom
   have hrun:=run_append_room (P:=P) w T ty e i hd hi g n cap cur hg xad m xcap news hnl hnews (hrep.leafOne hleaf) hroom (by rw[<-AR];omega)
   have hdr:RepL (OwnS (.box g e (ds++zs)::s0)) w (cur.toList.drop (n*i.size+news.length)) (zs.drop (m*i.size)):=by
    have:=hr.drop (n*i.size+news.length)
    rwa[Kd,Az (l:=ds) q_o,AM,show n*i.size+news.length - ds.length=m*i.size by omega]at this
   obtain⟨q1,q2⟩:=XG (us':=(cur.toList.take (n*i.size)++news++cur.toList.drop (n*i.size+news.length)).toArray) h hg (by
    rw[<-AR,<-AR]
    simp only[Ad,AQ,AO]
    omega) ((htk.append hrep).append hdr) (λd hd=>by
     rw[Bc,Bc]at hd
     rcases hd with(hd|hd)|hd
     . exact hdl d hd
     . exact hleaf d hd
     . exact hzl d (FH hd))
   refine⟨_,g,cap,zs.drop (m*i.size),hrun,hroom,hc,?_,q1,q2⟩
   simp only[Ad,AO]at hl |-
   omega
 . have hrun := run_append_grow (P := P) w T ty e i zv hd hi hzv ⟨g, 0, none⟩ n cap (cur.toList.take (n * i.size)) (by rw [AQ]; have : n * i.size <= cap * i.size := CM _ hn; omega) (λj v hv => by
    rw[ED,Bo,cell_of_row w g j cur e (0,0) hg]
    rw[Dq]at hv
    split at hv
    . rw[<-hv];simp
    . cases hv) xad m xcap news hnl hnews q_o q_o (growslice_fits q_o hb)
   have hge:=grownCap_ge w (n+m) cap e
   have hcm:=grownCap_le_maxLen w (n+m) cap e (by unfold maxLen;omega)
   generalize grownCap w (n+m) cap e=nc at *
   have hzm:=Xw (O:=OwnS (.box g e (ds++zs)::s0)) (w:=w) λv hv=>hz v (TT (n:=nc - (n+m)) q_o v hv)
   have hq:=fN h ((htk.append hrep).append hzm.1) (λd hd=>by
    rw[Bc,Bc]at hd
    rcases hd with(hd|hd)|hd
    . exact hdl d hd
    . exact hleaf d hd
    . exact hzm.2 d hd)
   have heq:((cur.toList.take (n*i.size)).toArray++news.toArray++Builtin.zeroCells zv.cells (nc - (n+m)))=((cur.toList.take (n*i.size)++news)++(Builtin.zeroCells zv.cells (nc - (n+m))).toList).toArray:=by simp
   rw[heq]at hrun
   refine⟨_,w.heap.size,nc,_,hrun,hge,hcm,?_,hq.1,hq.2⟩
   simp only[Ad,Ab,AR,size_zeroCells,hzs]
   rw[hds,hyl,<-FF,<-FF]
   congr 1
   omega
theorem Ki(T ty e:TypeId){i:TypeInfo}{zv:Value}(hd:P.underlying T=some (.slice e))(hi:P.info? e=some i)(hzv:i.zero=some zv)(hzs:zv.cells.size=i.size)(hsz:0<i.size)(hz:∀v∈zv.cells.toList,zOk v=true)
 (h:Holds st w){x:Value}(hx:Rep (OwnS st) w x (.sl .tight []))
 {xad:Addr}{m xcap:Nat}{news:List Value}{yd:List D}(hnl:news.length=m*i.size)(hnews:∀j u,news[j]?=some u->w.cell? (xad.add j)=some u)(hrep:RepL (OwnS st) w news yd)(hleaf:∀d∈yd,d.leaf=true)
 (hpos:0<m)(hb:m*i.bytes<=140737488355328)(hm:m<=140737488355328) :
 ∃w' g' cap' zs',(Builtin.append_ #[T,T] ty #[x,.slice (some xad) m xcap]).run P w=.ok (.slice (some ⟨g',0,none⟩) m cap') w'/\m<=cap'/\cap'<=maxLen/\(yd++zs').length=cap'*i.size /\
  Holds (.box g' e (yd++zs')::st) w'/\Ext (OwnS st) w (OwnS (.box g' e (yd++zs')::st)) w':=by
 obtain⟨a,cap,us,sz,rfl,c1,c2,c3,c4,c5,c6,c7,c8,c9,c10⟩:=Ep hx
 have hcap:cap=0:=c10
 subst hcap
 have hyl:yd.length=m*i.size:=hrep.1.symm.trans hnl
 have hrun:∃old,(Builtin.append_ #[T,T] ty #[.slice a ([]:List (List D)).length 0,.slice (some xad) m xcap]).run P w=.ok (.slice (some ⟨w.heap.size,0,none⟩) m (grownCap w m old e)) (w.drew.alloc (.cells (news.toArray++Builtin.zeroCells zv.cells (grownCap w m old e - m)) e)):=by
  cases a with
  | none=>exact⟨0,run_append_nil (P:=P) w T ty e i zv hd hi hzv xad m xcap news hnl hnews hpos q_o q_o⟩
  | some ad =>
   refine⟨0,?_⟩
   have:=run_append_grow (P:=P) w T ty e i zv hd hi hzv ad 0 0 [] (by simp) (λj v hv=>by simp at hv) xad m xcap news hnl hnews q_o q_o (growslice_fits q_o (by rw[Bo];exact hb))
   simpa using this
 obtain⟨old,hrun⟩:=hrun
 have hge:=grownCap_ge w m old e
 have hcm:=grownCap_le_maxLen w m old e (by unfold maxLen;omega)
 generalize grownCap w m old e=nc at *
 have hzm:=Xw (O:=OwnS st) (w:=w) λv hv=>hz v (TT (n:=nc - m) q_o v hv)
 have he:=Ext.drewN (OwnS st) w 1
 have hq:=MF (h.drewN 1) e ((hrep.append hzm.1).ext he) (λd hd=>by
  rw[Bc]at hd
  exact hd.elim (hleaf d) (hzm.2 d))
 have heq:(news.toArray++Builtin.zeroCells zv.cells (nc - m))=(news++(Builtin.zeroCells zv.cells (nc - m)).toList).toArray:=by simp
 rw[heq]at hrun
 refine⟨_,w.heap.size,nc,_,hrun,hge,hcm,?_,hq.1,he.trans hq.2⟩
 simp only[Ad,Ab,AR,size_zeroCells,hzs]
 rw[hyl,<-FF]
 congr 1
 omega
end
section
variable {P:Program} {N:Nat} {r:Option Nat} {A:AA} {st:St} {Q:Exit->AA->St->Prop} {m:Option Ro} {k:D->St->Prop} {dst:Option Tmp} {ty:TypeId} {pos:String} {aft:Array Edge} {gd:Option (Nat×Bool)} {o:Oper} {w:World}
def SZ (P:Program)(t:TypeId):Option (TypeId×Nat×Nat):=(Bt P t).bind λti=>match ti.k with
|.slice el sz bytes z=>if z.all zOk=true then some (el,sz,bytes)else none
|_=>none
theorem No{t el:TypeId}{sz bytes:Nat}(h:SZ P t=some (el,sz,bytes)):P.underlying t=some (.slice el)/\∃i zv,P.info? el=some i/\i.zero=some zv/\zv.cells.size=i.size/\0<i.size/\i.size=sz/\i.bytes=bytes/\∀v∈zv.cells.toList,zOk v=true:=by
 unfold SZ at h
 cases ht:Bt P t with
|none=>rw[ht] at h;cases h
|some ti =>
  rw[ht,BS]at h
  split at h
  . rename_i el' sz' bytes' z hk
    split at h
    . rename_i hz
      cases h
      obtain⟨hu,ii,zv,q1,q2,q3,q4,q5,q6,q7⟩:=(Ce ht).2.2.2.2.1 _ _ _ _ hk
      subst q4
      exact⟨hu,ii,zv,q1,q2,q7,q6,rfl,q5,by rw[q3];exact AU.1 hz⟩
    . cases h
  . cases h
def lC (P:Program)(m:Option Ro)(t:TypeId)(p:D×D)(st:St)(k:D->St->Prop):Prop :=
 ∃(el:TypeId) (sz bytes:Nat) (g n cap:Nat) (ds zs:List D) (oy:Own) (ys:List (List D)) (s1:Nat->List D->St),p=(.ar g 0 n cap,.sl oy ys)/\SZ P t=some (el,sz,bytes)/\(∀g' cs',ResAt (.box g el (ds++zs)) (.box g' el cs') st (s1 g' cs'))/\ds.length=n*sz/\(ds++zs).length=cap*sz/\(∀a∈ys,a.length=sz)/\(n+ys.length)*bytes<=140737488355328/\n+ys.length<=140737488355328 /\
  ∀g' cap' zs',n+ys.length<=cap'->(ds++ys.flatten++zs').length=cap'*sz->CZ m (s1 g' (ds++ys.flatten++zs'))/\k (.ar g' 0 (n+ys.length) cap') (s1 g' (ds++ys.flatten++zs'))
theorem Hy{t:TypeId}{x y:Operand}(h:Ev (IQ (ev A.e x) (ev A.e y)) λp=>lC P m t p st k):S P r m ⟨dst,.call ⟨.builtin .append,#[x,y],#[t,t]⟩,ty,pos,aft,gd⟩ A st k:=by
 obtain⟨p,h1,el,sz,bytes,g,n,cap,ds,zs,oy,ys,s1,rfl,h2,h3,h4,h5,h6,h7,h8,h9⟩:=h
 unfold IQ at h1
 split at h1
 . rename_i d d' hx hy
   cases h1
   refine Ek (R:=λd st'=>∃g' cap' zs',n+ys.length<=cap'/\(ds++ys.flatten++zs').length=cap'*sz/\d=.ar g' 0 (n+ys.length) cap'/\st'=s1 g' (ds++ys.flatten++zs')) rfl ?_ ⟨_,_,0,n+ys.length,[],Ap _,by rw[AY,Ad,DQ h6,h4,FF],rfl,rfl⟩ λd st' ⟨g',cap',zs',ha,hb,e1,e2⟩=>by subst e1 e2;exact h9 g' cap' zs' ha hb
   refine DB (by intro c hc;cases hc) λρ w hr hh=>.inl ?_
   have v1:=hr _ (by simp[Op.operands,Call.operands]) _ hx
   have v2:=hr _ (by simp[Op.operands,Call.operands]) _ hy
   obtain⟨q1,i,zv,q2,q3,q4,q5,rfl,rfl,q8⟩:=No h2
   obtain⟨s0,p1, -⟩:=(h3 g (ds++zs)).perm
   have hown:=OwnS.perm p1
   have hh':=hh.perm p1
   unfold execOp
   simp only[resolve,invoke,builtin,AG,AN,Am,Gg,Au,BH]
   generalize ρ x=xv at v1
   generalize ρ y=yv at v2
   cases v1 with
   | ar _ _ _ _ c1 c2 =>
   rw[hown]at v2
   obtain⟨xa,xcap,xus,xsz,rfl,x1,x2,x3,x4,x5,x6,x7,x8,x9, -⟩:=Ep v2
   by_cases hys:ys=[]
   . subst hys
     have:=Kh (w:=w) t ty el i q1 q2 (some ⟨g,0,none⟩) n cap c1 xa xcap
     rw[show([]:List (List D)).length=0 from rfl]
     rw[this]
     obtain⟨s0',p1',p2'⟩:=(h3 g (ds++zs)).perm
     refine⟨_,w,rfl,_,s1 g (ds++zs),.ar g 0 n cap c1 c2,hh.perm (p1'.trans p2'.symm),?_,g,cap,zs,by simpa using c1,by simpa using h5,by simp,by simp⟩
     rw[OwnS.perm (p1'.trans p2'.symm)]
     exact Ext.refl _ _
   . obtain ⟨xad, rfl⟩ : ∃ ad, xa = some ad := by
      cases xa with
      | none=>have:=x8 rfl;have:0<ys.length:=Cm.2 hys;omega
      | some ad=>exact⟨ad,rfl⟩
     obtain⟨w',g',cap',zs',e1,e2,e3,e4,e5,e6⟩:=Qq t ty el q1 q2 q3 q4 q5 q8 hh' c1 c2 h4 h5 (xcap:=xcap) (by rw[x6.1];exact DQ h6) (Hr x9 rfl) x6 x7 h7 h8
     obtain⟨s0',p1',p2'⟩:=(h3 g' (ds++ys.flatten++zs')).perm
     have hs:s0.Perm s0':=(TM _).1 (p1.symm.trans p1')
     have p3:(Res.box g' el (ds++ys.flatten++zs')::s0).Perm (s1 g' (ds++ys.flatten++zs')):=(hs.cons _).trans p2'.symm
     rw[e1]
     refine⟨_,w',rfl,_,_,.ar g' 0 _ cap' e2 e3,e5.perm p3,?_,g',cap',zs',e2,e4,rfl,rfl⟩
     rw[hown,<-OwnS.perm p3];exact e6
 . cases h1
def lF (m:Option Ro)(q:TypeId×Nat×Nat)(p:D×D)(st:St)(k:D->St->Prop):Prop :=
 ∃(g n cap:Nat) (ds zs:List D) (oy:Own) (ys:List (List D)) (s1:Nat->List D->St),p=(.ar g 0 n cap,.sl oy ys)/\(∀g' cs',ResAt (.box g q.1 (ds++zs)) (.box g' q.1 cs') st (s1 g' cs'))/\ds.length=n*q.2.1/\(ds++zs).length=cap*q.2.1/\(∀a∈ys,a.length=q.2.1)/\(n+ys.length)*q.2.2<=140737488355328/\n+ys.length<=140737488355328 /\
  ∀g' cap' zs',n+ys.length<=cap'->(ds++ys.flatten++zs').length=cap'*q.2.1->CZ m (s1 g' (ds++ys.flatten++zs'))/\k (.ar g' 0 (n+ys.length) cap') (s1 g' (ds++ys.flatten++zs'))
theorem Kl{t:TypeId}{p:D×D}(h:Ev (SZ P t) λq=>lF m q p st k):lC P m t p st k:=by
 obtain⟨⟨el,sz,bytes⟩,h1,g,n,cap,ds,zs,oy,ys,s1,h2,h3,h4,h5,h6,h7,h8,h9⟩:=h
 exact⟨el,sz,bytes,g,n,cap,ds,zs,oy,ys,s1,h2,h1,h3,h4,h5,h6,h7,h8,h9⟩
theorem Ii{el:TypeId}{sz bytes g n cap:Nat}{ds zs:List D}{oy:Own}{ys:List (List D)}{s1:Nat->List D->St}(h4:ds.length=n*sz)(h5:(ds++zs).length=cap*sz)(h3:∀g' cs',ResAt (.box g el (ds++zs)) (.box g' el cs') st (s1 g' cs'))(h6:∀a∈ys,a.length=sz)(h7:(n+ys.length)*bytes<=140737488355328)(h8:n+ys.length<=140737488355328)
 (h9:∀g' cap' zs',n+ys.length<=cap'->(ds++ys.flatten++zs').length=cap'*sz->CZ m (s1 g' (ds++ys.flatten++zs'))/\k (.ar g' 0 (n+ys.length) cap') (s1 g' (ds++ys.flatten++zs'))):lF m (el,sz,bytes) (.ar g 0 n cap,.sl oy ys) st k:=⟨g,n,cap,ds,zs,oy,ys,s1,rfl,h3,h4,h5,h6,h7,h8,h9⟩
def lB (P:Program)(m:Option Ro)(t:TypeId)(p:D×D)(st:St)(k:D->St->Prop):Prop :=
 ∃(el:TypeId) (sz bytes:Nat) (oy:Own) (ys:List (List D)),p=(.sl .tight [],.sl oy ys)/\SZ P t=some (el,sz,bytes)/\0<ys.length/\(∀a∈ys,a.length=sz)/\ys.length*bytes<=140737488355328/\ys.length<=140737488355328 /\
  ∀g' cap' zs',ys.length<=cap'->(ys.flatten++zs').length=cap'*sz->CZ m (.box g' el (ys.flatten++zs')::st)/\k (.ar g' 0 ys.length cap') (.box g' el (ys.flatten++zs')::st)
theorem Hz{t:TypeId}{x y:Operand}(h:Ev (IQ (ev A.e x) (ev A.e y)) λp=>lB P m t p st k):S P r m ⟨dst,.call ⟨.builtin .append,#[x,y],#[t,t]⟩,ty,pos,aft,gd⟩ A st k:=by
 obtain⟨p,h1,el,sz,bytes,oy,ys,rfl,h2,hpos,h6,h7,h8,h9⟩:=h
 unfold IQ at h1
 split at h1
 . rename_i d d' hx hy
   cases h1
   refine Ek (R:=λd st'=>∃g' cap' zs',ys.length<=cap'/\(ys.flatten++zs').length=cap'*sz/\d=.ar g' 0 ys.length cap'/\st'=.box g' el (ys.flatten++zs')::st) rfl ?_ ⟨_,_,0,ys.length,[],Ap _,by rw[AY,DQ h6],rfl,rfl⟩ λd st' ⟨g',cap',zs',ha,hb,e1,e2⟩=>by subst e1 e2;exact h9 g' cap' zs' ha hb
   refine DB (by intro c hc;cases hc) λρ w hr hh=>.inl ?_
   have v1:=hr _ (by simp[Op.operands,Call.operands]) _ hx
   have v2:=hr _ (by simp[Op.operands,Call.operands]) _ hy
   obtain⟨q1,i,zv,q2,q3,q4,q5,rfl,rfl,q8⟩:=No h2
   unfold execOp
   simp only[resolve,invoke,builtin,AG,AN,Am,Gg,Au,BH]
   generalize ρ x=xv at v1
   generalize ρ y=yv at v2
   obtain⟨xa,xcap,xus,xsz,rfl,x1,x2,x3,x4,x5,x6,x7,x8,x9, -⟩:=Ep v2
   obtain⟨xad,rfl⟩:∃ad,xa=some ad:=by
    cases xa with
    | none=>have:=x8 rfl;omega
    | some ad=>exact⟨ad,rfl⟩
   obtain⟨w',g',cap',zs',e1,e2,e3,e4,e5,e6⟩:=Ki t ty el q1 q2 q3 q4 q5 q8 hh v1 (xcap:=xcap) (by rw[x6.1];exact DQ h6) (Hr x9 rfl) x6 x7 hpos h7 h8
   rw[e1]
   exact⟨_,w',rfl,_,_,.ar g' 0 _ cap' e2 e3,e5,e6,g',cap',zs',e2,e4,rfl,rfl⟩
 . cases h1
def iw (m:Option Ro)(q:TypeId×Nat×Nat)(p:D×D)(st:St)(k:D->St->Prop):Prop :=
 ∃(oy:Own) (ys:List (List D)),p=(.sl .tight [],.sl oy ys)/\0<ys.length/\(∀a∈ys,a.length=q.2.1)/\ys.length*q.2.2<=140737488355328/\ys.length<=140737488355328 /\
  ∀g' cap' zs',ys.length<=cap'->(ys.flatten++zs').length=cap'*q.2.1->CZ m (.box g' q.1 (ys.flatten++zs')::st)/\k (.ar g' 0 ys.length cap') (.box g' q.1 (ys.flatten++zs')::st)
theorem Kj{t:TypeId}{p:D×D}(h:Ev (SZ P t) λq=>iw m q p st k):lB P m t p st k:=by
 obtain⟨⟨el,sz,bytes⟩,h1,oy,ys,h2,h3,h4,h5,h6,h7⟩:=h
 exact⟨el,sz,bytes,oy,ys,h2,h1,h3,h4,h5,h6,h7⟩
theorem HH{el:TypeId}{sz bytes:Nat}{oy:Own}{ys:List (List D)}(h4:0<ys.length)(h6:∀a∈ys,a.length=sz)(h7:ys.length*bytes<=140737488355328)(h8:ys.length<=140737488355328)
 (h9:∀g' cap' zs',ys.length<=cap'->(ys.flatten++zs').length=cap'*sz->CZ m (.box g' el (ys.flatten++zs')::st)/\k (.ar g' 0 ys.length cap') (.box g' el (ys.flatten++zs')::st)):iw m (el,sz,bytes) (.sl .tight [],.sl oy ys) st k:=⟨oy,ys,rfl,h4,h6,h7,h8,h9⟩
end
def Lend (st:St)(d d':D):Prop:=∀w v,Holds st w->Rep (OwnS st) w v d->Rep (OwnS []) w v d'
def LendL (st:St):List D->List D->Prop
|[],[]=>True
|d::l,d'::l'=>Lend st d d'/\LendL st l l'
|_,_=>False
section
variable {st:St} {w:World}
theorem Tv(O:Nat->Nat->Prop)(w:World):Ext O w (OwnS []) w:=(Ext.refl O w).less λb off h=>absurd h (OwnS.nil b off)
theorem Lend.refl(d:D):Lend st d d:=λw _ _ h=>h.ext (Tv _ w)
theorem Lend.sl(o:Own)(es:List (List D)):Lend st (.sl o es) (.sl .shared es):=λw _ _ h=>(h.ext (Tv _ w)).share
theorem LendL.nil:LendL st [] []:=trivial
theorem LendL.cons{d d':D}{l l':List D}(h:Lend st d d')(k:LendL st l l'):LendL st (d::l) (d'::l'):=⟨h,k⟩
theorem LendL.repL:∀{l l':List D},LendL st l l'->Holds st w->∀{us:List Value},RepL (OwnS st) w us l->RepL (OwnS []) w us l'
|[],[],_,_,us,h=>by obtain rfl:=h.inv_nil;exact .nil
|d::l,d'::l',⟨h1,h2⟩,hh,us,h=>by
  obtain⟨u,t,rfl,k1,k2⟩:=h.inv_cons
  exact .cons (h1 w u hh k1) (h2.repL hh k2)
|[],_::_,h,_,_,_=>h.elim
|_::_,[],h,_,_,_=>h.elim
theorem Lend.agg{l l':List D}(h:LendL st l l'):Lend st (.agg l) (.agg l'):=λw v hh x=>by
 cases x with
|agg us cs h1 h2=>obtain⟨k1,k2⟩:=h.repL (us:=us) hh ⟨h1,h2⟩;exact .agg us l' k1 k2
theorem Lend.row{g:Nat}{el:TypeId}{es:List (List D)}{zs:List D}{sz n cap:Nat}(hm:Res.box g el (es.flatten++zs)∈st)(hsz:0<sz)(hes:∀e∈es,e.length=sz)(hn:es.length=n):Lend st (.ar g 0 n cap) (.sl .shared es):=by
 intro w v hh hv
 obtain⟨⟨us,hb,hr⟩,hlc⟩:=hh.2 _ hm
 cases hv with
|ar _ _ _ _ h1 h2 =>
 subst hn
 have hfl:=DQ hes
 have hrl:RepL (OwnS st) w (us.toList.take (es.length*sz)) es.flatten:=by
  have:=hr.take (es.length*sz)
  rwa[CH q_o,Bj (l:=es.flatten) q_o]at this
 have hrl:=hrl.ext (Tv _ w)
 refine .sl .shared es (some ⟨g,0,none⟩) cap (us.toList.take (es.length*sz)) sz h1 h2 (λe=>by cases e) hsz hes hrl.1 (λd hd=>hlc d (Bp _ hd)) (λi hi=>⟨g,0,rfl,(AE.1 hb).1,OwnS.nil _ _,?_⟩) hrl.2 trivial
 rw[Bo,cell_of_row w g i us el (0,0) hb]
 rw[FI]
 simp at hi
 rw[Be q_o]
 simp
theorem Lend.rowE{st:St}{g:Nat}{el:TypeId}{es:List (List D)}{R zs:List D}{sz n cap:Nat}(hm:Res.box g el (R++zs)∈st)(hR:es.flatten=R)(hsz:0<sz)(hes:∀e∈es,e.length=sz)(hn:es.length=n):Lend st (.ar g 0 n cap) (.sl .shared es):=by
 subst hR
 exact Lend.row hm hsz hes hn
theorem Lend.ptr{b:Nat}{ty:TypeId}{cs cs':List D}(hm:Res.box b ty cs∈st)(hl:LendL st cs cs')(hleaf:∀d∈cs',d.leaf=true):Lend st (.ptr b 0) (.ip cs'):=by
 intro w v hh hv
 obtain⟨⟨us,hb,hr⟩,hlc⟩:=hh.2 _ hm
 have hrl:=hl.repL hh hr
 generalize hz:(0:Nat)=z at hv
 cases hv with
|ptr _ _ =>
 subst hz
 refine .ip b 0 us.toList cs' hrl.1 hleaf (λi hi=>⟨(AE.1 hb).1,OwnS.nil _ _,?_⟩) hrl.2
 rw[Bo,cell_of_row w b i us ty (0,0) hb]
 rw[Be (by simpa using hi)]
 simp
end
section
variable {P:Program} {f:FuncId} {args args':List D} {st:St} {m:Option Ro} {k:D->St->Prop}
theorem TrF.lend{x:Value}(h:TrF P f args' [] λd st'=>d=.s x/\st'=[])(hl:LendL st args args'):TrF P f args st λd st'=>d=.s x/\st'=st:=by
 intro vs w h1 h2
 have h3:=hl.repL h2 h1
 have h0:Holds [] w:=h2.sub (List.nil_sublist _)
 refine(h vs w h3 h0).mono λ_ w' ⟨v,e,d,s,k1,k2,k3,e1,e2⟩=>?_
 subst e1 e2
 have he:Ext (OwnS st) w (OwnS st) w':=by
  refine⟨k3.dr,k3.os,k3.tape,k3.output,k3.size,λ_ _ _ h=>h,λb hb _=>k3.block b hb λoff=>OwnS.nil b off,λb c E fr hc=>?_⟩
  exact⟨c,fr,(k3.block b (AE.1 hc).1 λoff=>OwnS.nil b off).trans hc,rfl,λ_ _=>rfl⟩
 refine⟨v,e,.s x,st,?_,?_,he,rfl,rfl⟩
 . have:=DI k1
   subst this
   cases k1 with
   | s _ hx=>exact .s _ hx
 . exact⟨h2.1,λr hr=>(h2.2 r hr).ext he λb hb=>k3.block b ((h2.2 r hr).lt hb) λoff=>OwnS.nil b off⟩
theorem Ft{ds ds':List D}{x:Value}(henter:∀args w,(callFunc f args).run P w=.ok (.enter f args) w)(h:TrF P f ds' [] λd st'=>d=.s x/\st'=[])(hl:LendL st ds ds')(hk:CZ m st/\k (.s x) st):LM P m (f,ds) st k :=
 Yu henter (h.lend hl) hk
end
section
variable {P:Program} {f:FuncId} {ds ds':List D} {st:St} {m:Option Ro} {k:D->St->Prop}
end
attribute [push_cast] SZ zOk
end
section
section
variable {P:Program} {r:Option Nat} {ro:Ro} {st:St} {A:AA} {ops:Array Oper}
theorem OC{ms:List Nat}(hms:MOk .any ops.toList ms)(hL:Kr ms ops)(hall:Bx ops=true){p:Nat}(hBt:Nf ms ops p){op:Oper}(hp:ops[p]?=some op){Q:AA->St->Prop}(ks2:List Nat):∀(ks:List Nat) (listed:Array Bool) (A:AA) (st:St),Dj ro st->DC .any ops listed->(∀k∈ks,k≠p/\Dh ms p k=true) ->
 Gq ms ops (ks++p::ks2) listed=true->LN P r ro ops (λA' st'=>∃ro2,Dj ro2 st'/\LN P r ro2 ops Q ks2 A' st') (ks++[p]) A st->Gb P r ro .any ops p Q (ks++p::ks2).length listed A st
|[],listed,A,st,hw,hdc,_,hB,h=>by
  simp only[AM,Gq,AF]at hB
  obtain⟨⟨⟨hr,hf⟩, -⟩,hB'⟩:=hB
  have hrp:p∈Region.ready .any ops listed:=by simpa using hr
  have h:=h op hp
  rw[show([]:List Nat).isEmpty=true from rfl,hall]at h
  refine Mk hms hBt hp _ _ _ _ hw hdc (λj oj hj hne hun hno=>(EI hp hf j oj hj hne hun hno).1) hrp ?_
  exact EB hw (λv w' _ ⟨ro2,q1,q2⟩=>⟨ro2,q1,IG hms hL ks2 _ _ _ q1 (hdc.step hrp) hB' q2⟩) h
|k::ks,listed,A,st,hw,hdc,hwt,hB,h=>by
  simp only[AI,Gq,AF]at hB
  obtain⟨⟨⟨hr,hf⟩, -⟩,hB'⟩:=hB
  have hr':k∈Region.ready .any ops listed:=by simpa using hr
  obtain⟨-,o,h0, -⟩:=mem_ready.1 hr'
  obtain⟨k1,k2⟩:=hwt k (Ag ..)
  refine Ml hms h0 k1 k2 _ listed A st hw hdc (EI h0 hf) hr' ?_
  have h:=h o h0
  have hne:(ks++[p]).isEmpty=false:=by simp
  rw[show List.append ks [p]=ks++[p]from rfl,hne,Aw]at h
  exact EB hw (λv w' hc hk'=>OC hms hL hall hBt hp ks2 ks _ _ _ (hc.resolve_left AJ) (hdc.step hr') (λi hi=>hwt i (Ae _ hi)) hB' hk') h
def kE (l:List Oper)(ks1:List Nat)(p:Nat)(ks2:List Nat):Bool :=
 Bx l.toArray && decide (p<l.length) && ks1.all (λk=>decide (k<l.length) && (k != p && Dh (ER .any l []) p k)) && ks2.all (λk=>decide (k<l.length)) &&
 (List.range l.length).all (λj=>j == p || Dh (ER .any l []) j p || Dh (ER .any l []) p j || ((l[j]?).any Oa)) &&
 decide ((ks1++p::ks2).length=l.length) && Gq (ER .any l []) l.toArray (ks1++p::ks2) (Array.replicate l.length false)
theorem GE{N:Nat}{id:Nat}{l:List Oper}{A:AA}{Q:Exit->AA->St->Prop}(ro:Ro)(ks1:List Nat)(p:Nat)(ks2:List Nat){t1 t2:List Oper}(hm:P.follows .mixedOrders=true)(hB:kE l ks1 p ks2=true)(hok:GR N l=true)(h1:Gy l (ks1++[p])=t1)(h2:Gy l ks2=t2)(hC:CZ (some ro) st)
 (h:nes st->W P r (some ro) l.toArray (λA' st'=>∃ro2,CZ (some ro2) st'/\W P r (some ro2) l.toArray (Q .normal) t2 A' st') t1 A st):Tr P N r (.region id l.toArray true) A st Q:=by
 refine OF λhne=>?_
 subst h1 h2
 replace h:=h hne
 intro a w hr hh
 simp only[kE,AF,decide_eq_true_eq]at hB
 obtain⟨⟨⟨⟨⟨⟨b1,b2⟩,b3⟩,b4⟩,b5⟩,b6⟩,b7⟩:=hB
 have hok':∀(i:Nat) (o:Oper),l.toArray[i]?=some o->JH N o.dst=true/\Gr N l.toArray o=true:=λi o ho=>by
  have:=AU.1 hok o (by simp at ho;exact Ah ho)
  simpa using this
 have he:=Ext.drew (OwnS st) w
 have hms:MOk .any l.toArray.toList (ER .any l []):=Ho (md:=.any) l l [] (by simp) (λk i h=>by simp at h)
 have hdc:DC .any l.toArray (Array.replicate l.length false):=λk o _ hl=>absurd hl (by rw[IW];exact AJ)
 have hp:l.toArray[p]?=some l[p]:=by simp[b2]
 have hBt:Nf (ER .any l []) l.toArray p:=λj oj hj hne=>by
  have hjl:j<l.length:=by simpa using (AE.1 hj).1
  have:=AU.1 b5 j (Fu.2 hjl)
  simp only[Co,beq_iff_eq]at this
  rcases this with((h|h)|h)|h
  . exact absurd h hne
  . exact .inl h
  . exact .inr (.inl h)
  . refine .inr (.inr ?_)
    rw[show l[j]?=some oj by simpa using hj]at h
    exact h
 have hk1:∀k∈ks1,k<l.length/\k≠p/\Dh (ER .any l []) p k=true:=λk hk=>by
  have:=AU.1 b3 k hk
  simpa [AF]using this
 have hk2:∀k∈ks2,k<l.length:=λk hk=>of_decide_eq_true (AU.1 b4 k hk)
 have hord:LN P r ro l.toArray (λA' st'=>∃ro2,Dj ro2 st'/\LN P r ro2 l.toArray (Q .normal) ks2 A' st') (ks1++[p]) A st:=by
  refine Hc (l:=l) (λi o ho=>⟨o,by simpa using ho,.refl o⟩) (λ_=>rfl) (λh=>h) (ks1++[p]) A st (λk hk=>?_) ?_
  . rcases Bc.1 hk with hk|hk
    . exact(hk1 k hk).1
    . rw[AB.1 hk];exact b2
  . rw[KJ]
    refine Ja (λA' st' ⟨ro2,k1,k2⟩=>⟨ro2,k1,?_⟩) _ _ _ h
    refine Hc (l:=l) (λi o ho=>⟨o,by simpa using ho,.refl o⟩) (λ_=>rfl) (λh=>h) ks2 A' st' hk2 ?_
    rw[KJ]
    exact k2
 have hany:=OC (P:=P) (r:=r) (ro:=ro) hms (Vi l) b1 hBt hp (Q:=Q .normal) ks2 ks1 (Array.replicate l.length false) A st hC hdc (λk hk=>(hk1 k hk).2) b7 hord
 rw[b6]at hany
 refine wpIn_region_any hm ?_
 have hsz:l.toArray.size=l.length:=by simp
 rw[hsz]
 exact Ik hms (Vi l) hok' _ _ A st a w.drew _ hC hdc (hr.ext he) (hh.drewN 1) hany λA' st' a' w' q1 q2 q3 q5=>⟨A',st',q1,q2,he.trans q3,q5⟩
end
end
section
section
variable {P:Program} {st:St} {w w':World}
theorem SP{b:Nat}{ty:TypeId}{cs cs':List D}{us us':Array Value}(h:Holds (.box b ty cs::st) w)(hb:w.heap[b]?=some (.cells us ty (0,0)))(hs:us'.size=us.size)
 (hdr:w.drawn<=w'.drawn)(ho:w'.os=w.os)(ht:w'.tape=w.tape)(hout:w'.output=w.output)(hsz:w'.heap.size=w.heap.size)(hb':w'.heap[b]?=some (.cells us' ty (0,0)))(hoth:∀k,k≠b->w'.heap[k]?=w.heap[k]?)
 (hr:RepL (OwnS (.box b ty cs::st)) w us'.toList cs')(hl:∀d∈cs',d.leaf=true) :
 Holds (.box b ty cs'::st) w'/\Ext (OwnS (.box b ty cs::st)) w (OwnS (.box b ty cs'::st)) w':=by
 have hown:∀k off,OwnS (.box b ty cs'::st) k off->OwnS (.box b ty cs::st) k off:=λk off ho=>by
  rw[OwnS.cons_iff]at ho |-
  exact ho
 have he:Ext (OwnS (.box b ty cs::st)) w (OwnS (.box b ty cs'::st)) w':=by
  refine⟨hdr,ho,ht,hout,by omega,λk off _ ho=>hown k off ho,λk hk hn=>?_,λk c E fr hk=>?_⟩
  . refine hoth k λe=>?_
    subst e
    exact hn 0 (OwnS.cons_iff.2 (.inl ⟨rfl,Ap _⟩))
  . by_cases e:k=b
    . subst e
      rw[hb]at hk
      cases hk
      exact⟨us',_,hb',hs,λoff hn=>absurd (OwnS.cons_iff.2 (.inl ⟨rfl,Ao _⟩)) hn⟩
    . exact⟨c,fr,(hoth k e).trans hk,rfl,λ_ _=>rfl⟩
 refine⟨h.put he (λx hx k hk=>hoth k λe=>?_) ⟨⟨us',hb',hr.ext he⟩,hl⟩ (λx hx=>?_),he⟩
 . subst e
   exact(AX.1 h.1).1 x hx k rfl hk
 . exact(AX.1 h.1).1 x hx
theorem PV{sz:Nat}(zs:List D):∀es:List (List D),(∀e∈es,e.length=sz)->Iq sz es.length (es.flatten++zs)=es
|[],_=>rfl
|e::es,h=>by
  have he:=h e (Ag ..)
  rw[An,Iq,AL,Ai,Qj he,Qm he,PV zs es λx hx=>h x (Ae _ hx)]
theorem TrF.freeze{f:FuncId}{args:List D}{el:TypeId}{es:List (List D)}{sz n:Nat}{s0:St}(h:TrF P f args st λd st'=>∃g cap zs,d=.ar g 0 n cap/\st'=.box g el (es.flatten++zs)::s0)(hsz:0<sz)(hes:∀e∈es,e.length=sz)(hn:es.length=n):TrF P f args st λd st'=>d=.sl .shared es/\st'=s0:=by
 intro vs w h1 h2
 refine(h vs w h1 h2).mono λ_ w' ⟨v,ev,d,s,k1,k2,k3,g,cap,zs,e1,e2⟩=>?_
 subst e1 e2
 have hch:Iq sz n ((es.flatten++zs).drop 0)=es:=by
  rw[Ch,<-hn]
  exact PV zs es hes
 have hr:=cW .shared (.inl rfl) (sz:=sz) k2 k1 hsz (by rw[Ad,DQ hes,hn];omega) (by intro h;cases h)
 rw[hch]at hr
 have he:=Ext.drop (st:=.box g el (es.flatten++zs)::s0) (st':=s0) (λ_ h=>Ae _ h) w'
 exact⟨v,ev,_,s0,hr,k2.sub (AK _ _),k3.trans he,rfl,rfl⟩
end
section
variable {P:Program} {N:Nat} {r:Option Nat} {A:AA} {st:St} {Q:Exit->AA->St->Prop} {m:Option Ro} {k:D->St->Prop} {dst:Option Tmp} {ty:TypeId} {pos:String} {aft:Array Edge} {gd:Option (Nat×Bool)} {o:Oper} {w:World}
theorem Mz{t t':TypeId}{x:Operand}{g off n cap:Nat}{q:TypeId×Nat×Nat}(ht:JO P t=some q)(hx:ev A.e x=some (.ar g off n cap))(hk:k (.b false) st):S P r none ⟨dst,.binOp .eql t x (.const (.slice none 0 0)) t',ty,pos,aft,gd⟩ A st k:=by
 refine DB (by intro c hc;cases hc) λρ w hr hh=>.inl ?_
 have hv1:=hr _ (by simp[Op.operands]) _ hx
 have hv2:=hr.cst (.slice none 0 0)
 obtain⟨el,sz,bytes⟩:=q
 obtain⟨ti,z,h10,h11⟩:=Jb ht
 obtain⟨hu, -⟩:=(Ce h10).2.2.2.2.1 _ _ _ _ h11
 generalize hxv:ρ x=xv at hv1
 cases hv1 with
|ar _ _ _ _ c1 c2 =>
 refine⟨.bool false,w,?_,_,_,.s (.bool false) rfl,hh,Ext.refl _ _,hk⟩
 unfold execOp
 have hrun:(binOp .eql t (.slice (some ⟨g,off,none⟩) n cap) (.slice none 0 0)).run P w=.ok (.bool false) w:=by
  simp only[binOp]
  simp[run_equal_slice_nil w t el (some ⟨g,off,none⟩) n cap hu]
 simp only[hxv,hv2,AG,Dt .eql t x (.const (.slice none 0 0)) (.slice (some ⟨g,off,none⟩) n cap) (.slice none 0 0) (λu=>by simp) (λu v=>by simp),hrun,Am,AN]
def lD (P:Program)(m:Option Ro)(t:TypeId)(p:D×D)(st:St)(k:D->St->Prop):Prop :=
 ∃(el:TypeId) (sz bytes:Nat) (g n cap:Nat) (ds zs:List D),p=(.sl .tight [],.ar g 0 n cap)/\SZ P t=some (el,sz,bytes)/\Res.box g el (ds++zs)∈st/\ds.length=n*sz/\0<n/\n*bytes<=140737488355328/\n<=140737488355328 /\
  ∀g' cap' zs',n<=cap'->(ds++zs').length=cap'*sz->CZ m (.box g' el (ds++zs')::st)/\k (.ar g' 0 n cap') (.box g' el (ds++zs')::st)
theorem SX{t:TypeId}{x y:Operand}(h:Ev (IQ (ev A.e x) (ev A.e y)) λp=>lD P m t p st k):S P r m ⟨dst,.call ⟨.builtin .append,#[x,y],#[t,t]⟩,ty,pos,aft,gd⟩ A st k:=by
 obtain⟨p,h1,el,sz,bytes,g,n,cap,ds,zs,rfl,h2,hm,hds,hpos,h7,h8,h9⟩:=h
 unfold IQ at h1
 split at h1
 . rename_i d d' hx hy
   cases h1
   refine Ek (R:=λd st'=>∃g' cap' zs',n<=cap'/\(ds++zs').length=cap'*sz/\d=.ar g' 0 n cap'/\st'=.box g' el (ds++zs')::st) rfl ?_ ⟨_,_,0,n,[],Ap _,by rw[AY,hds],rfl,rfl⟩ λd st' ⟨g',cap',zs',ha,hb,e1,e2⟩=>by subst e1 e2;exact h9 g' cap' zs' ha hb
   refine DB (by intro c hc;cases hc) λρ w hr hh=>.inl ?_
   have v1:=hr _ (by simp[Op.operands,Call.operands]) _ hx
   have v2:=hr _ (by simp[Op.operands,Call.operands]) _ hy
   obtain⟨q1,i,zv,q2,q3,q4,q5,rfl,rfl,q8⟩:=No h2
   unfold execOp
   simp only[resolve,invoke,builtin,AG,AN,Am,Gg,Au,BH]
   generalize ρ x=xv at v1
   generalize ρ y=yv at v2
   cases v2 with
   | ar _ _ _ _ c1 c2 =>
   obtain⟨⟨us,hb,hrr⟩,hlc⟩:=hh.2 _ hm
   have hul:=hrr.1
   rw[Ad]at hul
   have hrep:RepL (OwnS st) w (us.toList.take (n*i.size)) ds:=by
    have:=hrr.take (n*i.size)
    rwa[CH q_o,Bj (l:=ds) q_o]at this
   obtain⟨w',g',cap',zs',e1,e2,e3,e4,e5,e6⟩:=Ki (P:=P) t ty el q1 q2 q3 q4 q5 q8 hh v1 (xad:=⟨g,0,none⟩) (m:=n) (xcap:=cap) (by rw[AQ];omega) (λj u hu=>by
    rw[ED,Bo,cell_of_row w g j us el (0,0) hb]
    rw[Dq]at hu
    split at hu
    . rw[<-hu];simp
    . cases hu) hrep (λd hd=>hlc d (Bp _ hd)) hpos h7 h8
   rw[e1]
   exact⟨_,w',rfl,_,_,.ar g' 0 _ cap' e2 e3,e5,e6,g',cap',zs',e2,e4,rfl,rfl⟩
 . cases h1
def ix (m:Option Ro)(q:TypeId×Nat×Nat)(p:D×D)(st:St)(k:D->St->Prop):Prop :=
 ∃(g n cap:Nat) (ds zs:List D),p=(.sl .tight [],.ar g 0 n cap)/\Res.box g q.1 (ds++zs)∈st/\ds.length=n*q.2.1/\0<n/\n*q.2.2<=140737488355328/\n<=140737488355328 /\
  ∀g' cap' zs',n<=cap'->(ds++zs').length=cap'*q.2.1->CZ m (.box g' q.1 (ds++zs')::st)/\k (.ar g' 0 n cap') (.box g' q.1 (ds++zs')::st)
theorem XU{t:TypeId}{p:D×D}(h:Ev (SZ P t) λq=>ix m q p st k):lD P m t p st k:=by
 obtain⟨⟨el,sz,bytes⟩,h1,g,n,cap,ds,zs,h2,h3,h4,h5,h6,h7,h8⟩:=h
 exact⟨el,sz,bytes,g,n,cap,ds,zs,h2,h1,h3,h4,h5,h6,h7,h8⟩
theorem Te{el:TypeId}{sz bytes g n cap:Nat}{ds zs:List D}(h3:Res.box g el (ds++zs)∈st)(h4:ds.length=n*sz)(h5:0<n)(h6:n*bytes<=140737488355328)(h7:n<=140737488355328)
 (h8:∀g' cap' zs',n<=cap'->(ds++zs').length=cap'*sz->CZ m (.box g' el (ds++zs')::st)/\k (.ar g' 0 n cap') (.box g' el (ds++zs')::st)):ix m (el,sz,bytes) (.sl .tight [],.ar g 0 n cap) st k:=⟨g,n,cap,ds,zs,rfl,h3,h4,h5,h6,h7,h8⟩
end
section
variable {P:Program} {f:FuncId} {ds ds':List D} {st s1:St} {m:Option Ro} {k:D->St->Prop}
theorem DL{R:D->St->Prop}(henter:∀args w,(callFunc f args).run P w=.ok (.enter f args) w)(hp:st.Perm s1)(h:TrF P f ds' s1 R)(hle:LEL ds ds')(hex:∃d st',R d st')(hk:∀d st',R d st'->CZ m st'/\k d st'):LM P m (f,ds) st k :=
 ⟨R,henter,(TrF.perm hp h).le hle,hex,hk⟩
end
end
section
attribute [local push_cast] Br Bl BV V.cells_mk V.cells_len Nat.mul_one Int.sub_zero List.map_nil beq_self_eq_true
def DK (l:List Nat):List D:=(l.map BV).flatten
theorem Gn(l:List Nat):(DK l).length=l.length*1:=by
 unfold DK
 rw[DQ (sz:=1) λe he=>by
  obtain⟨x, -,rfl⟩:=Av.1 he
  rfl,Ab]
def Db (l:List Sl):List D:=(l.map Sl.cells).flatten
theorem EX(l:List Sl):(Db l).length=l.length*7:=by
 unfold Db
 rw[DQ (sz:=7) λe he=>by
  obtain⟨x, -,rfl⟩:=Av.1 he
  exact Sl.cells_len x,Ab]
theorem gu(g cap:Nat)(l:List Nat)(zs:List D)(hl:l≠[])(h8:l.length<=1000000)(st:St)(hm:Res.box g 3 (DK l++zs)∈st):TrF prog 89 [.ar g 0 l.length cap] st λd st'=>d=.sl .shared (l.map BV)/\st'=st:=by
 have hcl:=Gn l
 have hpos:0<l.length:=Cm.2 hl
 refine TrF.freeze (el:=3) (sz:=1) (n:=l.length) ?_ (by decide) (λe he=>by
  obtain⟨x, -,rfl⟩:=Av.1 he
  rfl) (Ab ..)
 show TrF _ _ _ _ λd st'=>∃g' cap' zs',d=.ar g' 0 l.length cap'/\st'=.box g' _ (DK l++zs')::st
 generalize DK l=R at *
 generalize l.length=n at *
 refine Qin [2] func89 results89 ntmps89 ?_
 repeat' (first|refine QV ?_|((with_reducible apply Mz);(focus simp(disch:=omega) only[push_cast,simprocAttr, *];exact rfl);(focus simp(disch:=omega) only[push_cast,simprocAttr, *];exact rfl))|with_reducible refine SX ?_|with_reducible refine XU ?_|((with_reducible apply(Te hm));(focus assumption);(focus assumption);(focus omega);(focus omega);intro g' cap' zs' hc hl')|refine QY ?_|refine QB ?_;intro b|with_reducible refine QZ ?_<;>(try constructor)<;>intro hb<;>try intro hb1|fail)
 all_goals(refine Bf q_x rfl (Aj _) (LE.of_eq ?_) ⟨g',cap',zs',rfl,rfl⟩;simp(disch:=omega) only[push_cast,simprocAttr, *])
theorem gt(g cap:Nat)(l:List Sl)(zs:List D)(hl:l≠[])(h8:l.length<=1000000)(st:St)(hm:Res.box g 184 (Db l++zs)∈st):TrF prog 185 [.ar g 0 l.length cap] st λd st'=>d=.sl .shared (l.map Sl.cells)/\st'=st:=by
 have hcl:=EX l
 have hpos:0<l.length:=Cm.2 hl
 refine TrF.freeze (el:=184) (sz:=7) (n:=l.length) ?_ (by decide) (λe he=>by
  obtain⟨x, -,rfl⟩:=Av.1 he
  exact Sl.cells_len x) (Ab ..)
 show TrF _ _ _ _ λd st'=>∃g' cap' zs',d=.ar g' 0 l.length cap'/\st'=.box g' _ (Db l++zs')::st
 generalize Db l=R at *
 generalize l.length=n at *
 refine Qin [2] func185 results185 ntmps185 ?_
 repeat' (first|refine QV ?_|((with_reducible apply Mz);(focus simp(disch:=omega) only[push_cast,simprocAttr, *];exact rfl);(focus simp(disch:=omega) only[push_cast,simprocAttr, *];exact rfl))|with_reducible refine SX ?_|with_reducible refine XU ?_|((with_reducible apply(Te hm));(focus assumption);(focus assumption);(focus omega);(focus omega);intro g' cap' zs' hc hl')|refine QY ?_|refine QB ?_;intro b|with_reducible refine QZ ?_<;>(try constructor)<;>intro hb<;>try intro hb1|fail)
 all_goals(refine Bf q_x rfl (Aj _) (LE.of_eq ?_) ⟨g',cap',zs',rfl,rfl⟩;simp(disch:=omega) only[push_cast,simprocAttr, *])
theorem ak(o:Own)(l:List Nat)(x:Nat)(st:St):TrF prog 205 [.sl o (l.map BV),.i x] st λd st'=>d=.b (decide (x∈l))/\st'=st :=
 a8 λvs w hv=>by
  obtain⟨v,v',rfl,h1,h2⟩:=lu hv
  cases DI h2
  have hs:Sees (λn:Nat=>Value.int .i64 n) w v l:=Ue (f:=λn:Nat=>Value.int .i64 n) h1
  refine⟨_,λ_ _=>.s _ rfl,?_⟩
  obtain⟨a,cap,rfl,q1,q2,q3,q4⟩:=hs
  cases l with
  | nil =>
   refine(Tryz.slices_Contains_int_empty a cap x w).mono ?_
   rintro e w' ⟨he,rfl⟩
   exact⟨he,Below.refl _ _,Ap _⟩
  | cons y r =>
   obtain⟨b,rfl⟩:∃b,a=some b:=by
    cases a with
    | none=>have:=q3 rfl;simp at q1;omega
    | some b=>exact⟨b,rfl⟩
   obtain⟨e1,e2,e3⟩:=q4 b rfl (by simp)
   obtain⟨bk,off,sp⟩:=b
   dsimp only at e1 e2 e3
   subst e1
   have hc:=Tryz.slices_Contains_int bk off (y::r).length cap ((y::r).map Int.ofNat) x w (by simp) (by unfold maxLen at q2;omega) (λj hj=>by
    rw[Ab]at hj
    rw[e3 j hj,AW,Aq,Al hj];rfl)
   refine hc.mono ?_
   rintro e w' ⟨he,rfl⟩
   refine⟨?_,Below.refl _ _,Ap _⟩
   rw[he]
   congr 2
   rw[Bj (by simp),Ej,List.contains_iff_mem,decide_eq_true_eq,Av]
   constructor
   . rintro⟨a,h1,h2⟩
     have:a=x:=lK h2
     exact this▸h1
   . intro h;exact⟨x,h,rfl⟩
theorem gn(g cap i:Nat)(l:List Nat)(zs:List D)(hi:i<l.length)(hzs:(DK l++zs).length=cap*1)(st:St):TrF prog 204 [.ar g 0 l.length cap,.i i,.i ((i:Int)+1)] (.box g 3 (DK l++zs)::st) λd st'=>d=.ar g 0 (l.eraseIdx i).length cap/\st'=.box g 3 (DK (l.eraseIdx i)++(.i 0::zs))::st:=by
 intro vs w hv hh
 obtain⟨lv⟩:=vs
 obtain⟨v0,t0,e0,h1,hv⟩:=hv.inv_cons
 obtain⟨v1,t1,e1,h2,hv⟩:=hv.inv_cons
 obtain⟨v2,t2,e2,h3,hv⟩:=hv.inv_cons
 have e3:=hv.inv_nil
 dsimp only at e0
 subst e3 e2 e1 e0
 cases DI h2
 cases DI h3
 have hh1:=h1
 cases h1 with
|ar _ _ _ _ c1 c2 =>
 obtain⟨⟨us,hb,hr⟩,hlc⟩:=hh.2 _ (Ag ..)
 have hul:=hr.1
 have hcl:=Gn l
 rw[Ad]at hul
 have hcm:∀l:List Nat,DK l=l.map λc:Nat=>D.i c:=by
  intro l
  unfold DK
  induction l with
  | nil=>rfl
  | cons x l ih=>rw[Au,AL,ih];rfl
 have hat:∀j (hj:j<l.length),us[j]?=some (.int .i64 (l[j]:Nat)):=λj hj=>by
  have hd:(DK l++zs)[j]?=some (.i (l[j]:Nat)):=by
   rw[Ba q_o,hcm,Aq,Al hj];rfl
  obtain⟨u,hu,hru⟩:=hr.get? hd
  rw[DI hru]at hu
  rw[<-hu];simp
 have hH:Sort.Holds (Value.int .i64) w g 0 ((l.map Int.ofNat).toArray):=λj hj=>by
  have hj':j<l.length:=by simpa using hj
  refine⟨?_,?_⟩
  . rw[Bo,cell_of_row w g j us _ (0,0) hb,hat j hj',getElem!_pos _ j hj]
    simp
  . unfold World.frozen?
    dsimp only
    rw[hb];simp
 have hc:=Tryz.slices_Delete_int g 0 cap i (i+1) (l.map Int.ofNat) w hH (by simpa using c1) (by unfold maxLen at c2;omega) q_o (by rw[Ab];omega)
 rw[Ab]at hc
 have hcast:((i+1:Nat):Int)=(i:Int)+1:=by omega
 rw[hcast]at hc
 refine hc.mono ?_
 rintro e w' ⟨rfl,q,hw⟩
 refine⟨_,rfl,?_⟩
 obtain⟨d',hd'⟩:∃d',((l.map Int.ofNat).take i++(l.map Int.ofNat).drop (i+1)++List.replicate (i+1 - i) 0)=d':=⟨_,rfl⟩
 rw[hd']at hw
 have hdl:d'.length=l.length:=by
  rw[<-hd']
  simp only[Ad,AQ,AO,Ab,QE]
  omega
 have hus:(Sort.putCells (Value.int .i64) 0 d'.toArray us).toList=d'.map (Value.int .i64)++us.toList.drop l.length:=by
  apply Cx
  intro k
  unfold Sort.putCells
  rw[BF,QG]
  by_cases hk:k<l.length
  . have hk2:k<us.size:=by rw[<-AR];omega
    rw[Ba (by rw[Ab];omega),Be hk2,Aq,Al (by omega:k<d'.length)]
    simp only[CK,Ao,Bo,Nj,hdl,hk,and_self,if_true,LD,true_and]
    rw[getElem!_pos _ k (by simp;omega)]
    simp
  . rw[BP (by rw[Ab];omega),Ab,hdl,Fv,show l.length+(k - l.length)=k by omega,BF]
    cases us[k]? with
    | none=>rfl
    | some u=>simp[hdl,hk]
 have hrep:RepL (OwnS (.box g 3 (DK l++zs)::st)) w (Sort.putCells (Value.int .i64) 0 d'.toArray us).toList (DK (l.eraseIdx i)++(.i 0::zs)):=by
  rw[hus,show DK (l.eraseIdx i)++(.i 0::zs)=(d'.map λn=>D.i n)++zs by
   rw[<-hd',hcm,List.eraseIdx_eq_take_drop_succ,show i+1 - i=1 by omega]
   simp only[Bi,NU,lI,Ey,Ai,List.replicate,Au,BH,AI,AM]
   rfl]
  refine RepL.append (RepL.map λx _=>.s _ rfl) ?_
  have:=hr.drop l.length
  rwa[Kd,Az (l:=DK l) q_o,AM,show l.length - (DK l).length=0 by omega,Ch]at this
 have hw':w'.heap[g]?=some (.cells (Sort.putCells (Value.int .i64) 0 d'.toArray us) 3 (0,0)):=by
  rw[hw]
  simp only[Sort.putRow,Sort.mapBlock,Sort.ahead]
  rw[Di]
  simp[hb,Sort.onCells]
 have hs:=SP (w':=w') hh hb (by simp[Sort.putCells]) (by rw[hw];first|exact Fj _ _|simp[Sort.putRow,Sort.mapBlock,Sort.ahead]) (by rw[hw];rfl) (by rw[hw];rfl) (by rw[hw];rfl) (by rw[hw];simp[Sort.putRow,Sort.mapBlock,Sort.ahead]) hw' (λk hk=>by
  rw[hw]
  simp only[Sort.putRow,Sort.mapBlock,Sort.ahead]
  rw[Di,if_neg (LA hk)]) hrep (λd hd=>by
   rw[hcm,Bc]at hd
   rcases hd with hd|hd
   . obtain⟨c, -,rfl⟩:=Av.1 hd;rfl
   . rcases Ax.1 hd with rfl|hd
     . rfl
     . exact hlc d (Bh _ hd))
 have hel:(l.eraseIdx i).length=l.length - (i+1 - i):=by rw[Hh hi];omega
 refine⟨.ar g 0 (l.eraseIdx i).length cap,_,?_,hs.1,hs.2,rfl,rfl⟩
 rw[hel]
 exact .ar g 0 _ cap q_o c2
theorem QS(t:Int)(st:St):TrF prog 201 [.i t] st λx st'=>x=.b (Sch.takes t)/\st'=st:=by
 unfold Sch.takes
 refine Qin [2] func201 results201 ntmps201 ?_
 repeat' (first|refine QX ?_|refine QB ?_;intro b|with_reducible refine QZ ?_<;>(try constructor)<;>intro hb<;>try intro hb1|fail)
 all_goals(refine BZ (hd:=?_);(try simp(disch:=omega) only[push_cast,simprocAttr, *]);try(first|exact q_e|refine LE.of_eq ?_))
 all_goals(first|rfl|(refine congrArg D.b ?_;rw[Ej];simp only[AH,Aw,GD,CD,Fh,Dk,BQ,Bu,true_and,and_true,Cs,Ew,decide_eq_true_eq,decide_eq_false_iff_not,beq_iff_eq,beq_eq_false_iff_ne,bne_iff_ne,ne_eq,reduceCtorEq,iff_true,true_iff,iff_false,false_iff,AF,Co,BN,Eu];first|done|omega))
theorem Uh(nm:ByteArray)(ty:Int)(rq:Bool)(dv v:V)(hB:v.nodes<=4611686018427387904)(st:St):TrF prog 182 [.agg (Sl.mk nm ty rq dv).cells,.agg v.cells] st λx st'=>x=.b (Sch.fits (Sl.mk nm ty rq dv) v)/\st'=st:=by
 have hR:=QI v hB
 unfold Sch.fits
 cases hr:v.right with
|false =>
  rw[hr]at hR
  cases v with
  | mk k n s l =>
  cases dv with
  | mk dk dn ds dl =>
  rw[V.cells_mk]at hR
  rw[Sl.cells_mk,V.cells_mk]
  replace hR:=Aa hR
  refine Qin [4] func182 results182 ntmps182 ?_
  exact WR
|true =>
  rw[hr]at hR
  cases v with
  | mk k n s l =>
  cases dv with
  | mk dk dn ds dl =>
  have hk:0<=k/\k<=5:=by
   have:=(V.right_iff.1 hr).1
   rw[V.parts,AF,AF]at this
   have:=this.1.1
   unfold V.sgl at this
   repeat' split at this
   all_goals(first|omega|exact absurd this (by decide))
  obtain⟨hk1,hk2⟩:=hk
  rw[V.cells_mk]at hR
  rw[Sl.cells_mk,V.cells_mk]
  replace hR:=Aa hR
  unfold Sch.bit
  clear hr
  refine Qin [4] func182 results182 ntmps182 ?_
  exact WR
theorem QT(s:Sl)(hB:s.dv.nodes<=4611686018427387904)(st:St):TrF prog 183 [.agg s.cells] st λx st'=>x=.b (Sch.sound s)/\st'=st:=by
 have hN:=Aa (II s.name)
 have hT:=Aa (QS s.types)
 have hF:=Uh s.name s.types s.req s.dv s.dv hB
 unfold Sch.sound
 cases s with
|mk nm ty rq dv =>
 dsimp only at hN hT hF |-
 generalize V.isName nm.data.toList=q1 at *
 generalize Sch.takes ty=q2 at *
 generalize Sch.fits (Sl.mk nm ty rq dv) dv=q3 at *
 cases dv with
|mk k n s l =>
 rw[Sl.cells_mk,V.cells_mk]at hF
 rw[Sl.cells_mk]
 replace hF:=Aa hF
 cases q1<;>cases q2<;>cases q3
 all_goals skip
 all_goals(
  refine Qin [2] func183 results183 ntmps183 ?_
  exact WR)
theorem Mv(s:Sl)(b1 b2:Bool)(hB:s.dv.Bg)(st:St):TrF prog 203 [.agg s.cells,.b b1,.b b2] st λx st'=>x=.b (Sch.bare s b1 b2)/\st'=st:=by
 have hS:=Mn s.dv Sch.zeroV hB (.mk (Ao _) (Ao _) λx h=>by cases h)
 unfold Sch.bare
 cases s with
|mk nm ty rq dv =>
 dsimp only at hS |-
 have hE:=Jr nm
 generalize decide (nm.size=0)=q1 at *
 generalize (dv.cmp Sch.zeroV == 0)=q3 at *
 unfold Sch.zeroV at hS
 cases dv with
|mk k n s l =>
 rw[V.cells_mk,V.cells_mk,BH]at hS
 rw[Sl.cells_mk]
 replace hS:=Aa hS
 obtain⟨q2,h2⟩:∃q2,(ty == 0)=q2:=⟨_,rfl⟩
 rw[h2]
 refine Qin [6] func203 results203 ntmps203 ?_
 cases b1<;>cases b2<;>cases q1<;>cases q2<;>cases rq
 all_goals skip
 all_goals(
  repeat' (first|refine QX ?_|refine QB ?_;intro b|with_reducible refine QZ ?_<;>(try constructor)<;>intro hb<;>try intro hb1|refine QL call126 (hS.out _) ?_|fail)
  all_goals exact BZ)
theorem am{slots:List Sl}{name:ByteArray}{cols:List Nat}{i c:Nat}(h:cols[i]?=some c):Sch.colL slots name (cols.drop i)=if Sch.named slots name c then(c:Int)else Sch.colL slots name (cols.drop (i+1)):=by
 obtain⟨h1,rfl⟩:=Af.1 h
 rw[BM h1,Sch.colL]
theorem SR(slots:List Sl)(cols:List Nat)(name:ByteArray)(hl:slots.length<=1000000)(hc:cols.length<=1000000)(st:St):TrF prog 184 [.agg [.sl .shared (slots.map Sl.cells),.sl .shared (cols.map BV)],.str name] st λx st'=>x=.i (Sch.colL slots name cols)/\st'=st:=by
 obtain⟨B,hB⟩:∃B,Sch.colL slots name cols=B:=⟨_,rfl⟩
 have HB:Hid (Sch.colL slots name (cols.drop 0)=B):=hB
 rw[hB]
 clear hB
 refine Qin [4] func184 results184 ntmps184 ?_
 repeat' (first|refine QX ?_|refine QB ?_;intro b|with_reducible refine QZ ?_<;>(try constructor)<;>intro hb<;>try intro hb1|fail)
 refine DN (ι:=Nat) (λi A st'=>i<=cols.length/\Hid (Sch.colL slots name (cols.drop i)=B)/\A.df=[]/\A.e 1=.str name/\A.e 2=.ip [.sl .shared (slots.map Sl.cells),.sl .shared (cols.map BV)]/\A.e 8=.sl .shared (cols.map BV)/\A.e 9=.i cols.length/\A.e 10=.i i/\st=st') (λi=>cols.length - i) 0 ⟨Ao _,HB,Qf,Qf,Qf,Qf,Qf,Qf,rfl⟩ ?_
 rintro i A st' ⟨hi,HT,hdf,e1,e2,e8,e9,e10,rfl⟩
 by_cases hlt:i<cols.length
 . obtain⟨c,hx⟩:=gEx hlt
   have HE:=HT.out
   rw[am hx]at HE
   clear HT HB
   by_cases hcs:c<slots.length
   . obtain⟨s,hs⟩:=gEx hcs
     cases s with
     | mk nm ty rq dv =>
     cases dv with
     | mk k n sv l =>
     obtain⟨q,hq⟩:∃q,(nm.toList == name.toList)=q:=⟨_,rfl⟩
     have hnm:Sch.named slots name c=q:=by
      unfold Sch.named
      rw[hs,<-hq];rfl
     rw[hnm]at HE
     clear hnm
     have hcell:(slots.map Sl.cells)[c]?=some [.str nm,.i ty,.b rq,.i k,.i n,.str sv,.sl .shared (l.map V.cells)]:=by
      rw[Aq,hs,<-Sl.cells_mk];rfl
     clear hs
     have hsl:(slots.map Sl.cells).length=slots.length:=Ab ..
     generalize slots.map Sl.cells=SL at *
     cases q with
     | true =>
      rw[if_pos rfl]at HE
      rw[<-HE]
      clear HE
      exact WR
     | false =>
      rw[if_neg (by decide)]at HE
      replace HE:=Aa HE
      repeat' (first|refine QX ?_|refine QB ?_;intro b|with_reducible refine QZ ?_<;>(try constructor)<;>intro hb<;>try intro hb1|fail)
      refine⟨i+1,⟨hlt,HE,?_,?_,?_,?_,?_,?_,rfl⟩,?_⟩
      all_goals exact Qf
   . have hnm : Sch.named slots name c = false := by
      unfold Sch.named
      rw[Bz q_o];rfl
     rw[hnm,if_neg (by decide)]at HE
     replace HE:=Aa HE
     clear hnm
     repeat' (first|refine QX ?_|refine QB ?_;intro b|with_reducible refine QZ ?_<;>(try constructor)<;>intro hb<;>try intro hb1|fail)
     refine⟨i+1,⟨hlt,HE,?_,?_,?_,?_,?_,?_,rfl⟩,?_⟩
     all_goals exact Qf
 . have HE:=HT.out
   rw[Az q_o,Sch.colL]at HE
   rw[<-HE]
   clear HE HT HB
   exact WR
theorem LV(x:Vr)(s:Stp)(st:St)(ho:s.order.length<=9223372036854775807)(hc:x.cols.length<=1000000):TrF prog 202 [.ip x.cells,.agg s.cells] st λd st'=>d=.b (Sch.column x s)/\st'=st:=by
 unfold Sch.column Vr.cells Stp.cells
 cases s with
|mk kd col slot order =>
 cases slot with
|mk nm ty rq dv =>
 cases dv with
|mk k n sv l =>
 rw[Sl.cells_mk]
 dsimp only[List.cons_append,List.nil_append]at ho |-
 refine Qin [4] func202 results202 ntmps202 ?_
 repeat' (first|refine QX ?_|refine QB ?_;intro b|with_reducible refine QZ ?_<;>(try constructor)<;>intro hb<;>try intro hb1|fail)
 all_goals(refine BZ (hd:=?_);(try simp(disch:=omega) only[push_cast,simprocAttr, *]);try(first|exact q_e|refine LE.of_eq ?_))
 all_goals(first|rfl|(refine congrArg D.b ?_;rw[Ej];simp only[AH,Aw,GD,CD,Fh,Dk,BQ,Bu,true_and,and_true,Cs,Ew,decide_eq_true_eq,decide_eq_false_iff_not,beq_iff_eq,beq_eq_false_iff_ne,bne_iff_ne,ne_eq,reduceCtorEq,iff_true,true_iff,iff_false,false_iff,AF,Co,BN,Eu];first|done|omega))
abbrev VB (bx gs cS:Nat)(zS:List D)(gc cC:Nat)(zC:List D)(x:Vr)(s:St):St :=
 .box bx 146 [.ar gs 0 x.slots.length cS,.ar gc 0 x.cols.length cC]::.box gs 184 (Db x.slots++zS)::.box gc 3 (DK x.cols++zC)::s
def VL (cS:Nat)(zS:List D)(cC:Nat)(zC:List D)(x:Vr):Prop:=(Db x.slots++zS).length=cS*7/\(DK x.cols++zC).length=cC*1
structure VW (x:Vr):Prop where
 ls:x.slots.length<=1000
 lc:x.cols.length<=8
 cs:∀c∈x.cols,c<x.slots.length
def Stp.Ok (s:Stp):Prop:=s.slot.dv.nodes<=1000/\s.slot.dv.Bg/\s.order.length<=1000
theorem IL(x:Vr):(x.slots.map Sl.cells).flatten=Db x.slots:=rfl
theorem IB(x:Vr):(x.cols.map BV).flatten=DK x.cols:=rfl
theorem Fp(l:List Sl):∀e∈l.map Sl.cells,e.length=7:=λe he=>by
 obtain⟨x, -,rfl⟩:=Av.1 he
 exact Sl.cells_len x
theorem Fz(l:List Nat):∀e∈l.map BV,e.length=1:=λe he=>by
 obtain⟨x, -,rfl⟩:=Av.1 he
 rfl
def GU (F:Vr->Stp->Option Vr)(x:Vr)(stp:Stp)(bx:Nat)(s:St)(d:D)(st':St):Prop :=
 (F x stp=none/\d=.b false/\st'=s)\/∃x' gs cS zS gc cC zC,F x stp=some x'/\VL cS zS cC zC x'/\d=.b true/\st'=VB bx gs cS zS gc cC zC x' s
theorem QR(l:List Sl)(s:Sl):Db (l++[s])=Db l++[s.cells].flatten:=by
 unfold Db;simp
theorem PQ(l:List Nat)(c:Nat):DK (l++[c])=DK l++[[D.i c]].flatten:=by
 unfold DK;simp[BV]
theorem eP(bx gs cS gc cC:Nat)(zS zC:List D)(x:Vr)(stp:Stp)(hx:VW x)(hs:stp.Ok)(hz:VL cS zS cC zC x)(s:St):TrF prog 186 [.ptr bx 0,.agg stp.cells] (VB bx gs cS zS gc cC zC x s) (GU Sch.addS x stp bx s):=by
 obtain⟨ls,lc, -⟩:=hx
 obtain⟨hn, -,ho⟩:=hs
 obtain⟨hz1,hz2⟩:=hz
 have hS:=QT stp.slot q_o
 have hC:=SR x.slots x.cols stp.slot.name q_o q_o []
 have hr1:=EX x.slots
 have hr2:=Gn x.cols
 have e1:=Aa (Fp x.slots)
 have e2:=Aa (Fz x.cols)
 have f1:=Aa (IL x)
 have f2:=Aa (IB x)
 have l1:Hid ((x.slots.map Sl.cells).length=x.slots.length):=Ab ..
 have l2:Hid ((x.cols.map BV).length=x.cols.length):=Ab ..
 have g1:=Aa (QR x.slots stp.slot)
 have g2:=Aa (PQ x.cols x.slots.length)
 have g3:Hid ((x.slots++[stp.slot]).length=x.slots.length+1):=Ad
 have g4:Hid ((x.cols++[x.slots.length]).length=x.cols.length+1):=Ad
 obtain⟨x',hx'⟩:∃x':Vr,x'=⟨x.slots++[stp.slot],x.cols++[x.slots.length]⟩:=⟨_,rfl⟩
 have hF:Hid (Sch.addS x stp=if stp.col=0/\stp.order.length=0/\x.cols.length<8/\Sch.sound stp.slot=true/\stp.slot.req=false/\Sch.colL x.slots stp.slot.name x.cols<0 then some x' else none):=by rw[hx'];rfl
 have s1:Hid (x'.slots=x.slots++[stp.slot]):=by rw[hx'];rfl
 have s2:Hid (x'.cols=x.cols++[x.slots.length]):=by rw[hx'];rfl
 clear hx'
 unfold GU VL VB Stp.cells
 generalize Sch.addS x stp=F at *
 cases stp with
|mk kd col slot order =>
 cases slot with
|mk nm ty rq dv =>
 cases dv with
|mk k n sv l =>
 dsimp only at hS hC ho hF |-
 generalize Sch.sound _=q at *
 generalize Sch.colL _ _ _=cv at *
 generalize Db x.slots=R1 at *
 generalize DK x.cols=R2 at *
 generalize x.slots.map Sl.cells=L1 at *
 generalize x.cols.map BV=L2 at *
 rw[Sl.cells_mk]at *
 dsimp only[List.cons_append,List.nil_append]at ho |-
 generalize x.slots.length=m1 at *
 generalize x.cols.length=m2 at *
 replace hS:=Aa hS
 replace hC:=Aa hC
 refine Qin [4] func186 results186 ntmps186 ?_
 repeat' (first|refine QV ?_|((with_reducible refine FL [(bx,[.ar gs 0 m1 cS,.ar gc 0 m2 cC])] ?_ ?_ ?_ ?_ ?_);(iterate 3 (focus kernel_rfl));(focus((repeat(first|exact BI|refine BX q_m ?_));done)))|((with_reducible refine And.intro ?_ ?_);(focus exact q_k))|((with_reducible refine FL [(bx,[.ar gs 0 m1 cS,.ar gc' 0 (m2+1) cC'])] ?_ ?_ ?_ ?_ ?_);(iterate 3 (focus kernel_rfl));(focus((repeat(first|exact BI|refine BX q_m ?_));done)))|((with_reducible refine And.intro ?_ ?_);(focus exact q_k))|with_reducible refine Hy ?_|with_reducible refine Kl ?_|((with_reducible apply(Ii hr1 hz1));(focus(intro g' cs';repeat(first|exact Hn|apply Hm)));(focus exact CP rfl);(focus exact q_n);(focus exact q_n);intro gs' cS' zS' hcs hls)|((with_reducible apply(Ii hr2 hz2));(focus(intro g' cs';repeat(first|exact Hn|apply Hm)));(focus exact CP rfl);(focus exact q_n);(focus exact q_n);intro gc' cC' zC' hcc hlc)|refine QY ?_|refine QB ?_;intro b|with_reducible refine QZ ?_<;>(try constructor)<;>intro hb<;>try intro hb1|((with_reducible apply(Ft call184));(focus exact hC.out);(focus exact⟨Lend.agg ⟨Lend.rowE q_m f1.out (by decide) e1.out l1.out,Lend.rowE q_m f2.out (by decide) e2.out l2.out,trivial⟩,Lend.refl _,trivial⟩))|fail)
 all_goals first
  | ((refine Bf q_x q_y q_u (LE.of_eq ?_) (.inl ⟨?_,rfl,rfl⟩));(focus simp(disch:=omega) only[push_cast,simprocAttr, *]);(focus(rw[hF.out];refine if_neg ?_;rintro⟨h1,h2,h3,h4,h5,h6⟩;(first|omega|exact Bool.noConfusion (h4.symm.trans (by assumption):true=false)|exact Bool.noConfusion (h5.symm.trans (by assumption):false=true)))))
  | ((refine Bf q_x q_y (Aj _) (LE.of_eq ?_) (.inr ⟨x',gs',cS',zS',gc',cC',zC',?_,⟨?_,?_⟩,rfl,?_⟩));(focus simp(disch:=omega) only[push_cast,simprocAttr, *]);(focus(rw[hF.out];refine if_pos ⟨?_,?_,?_,?_,?_,?_⟩<;>first|assumption|omega));(focus(rw[s1.out,g1.out,(by assumption:rq=false)];exact hls));(focus(rw[s2.out,g2.out];exact hlc));(focus(rw[s1.out,s2.out,g1.out,g2.out,g3.out,g4.out,(by assumption:rq=false)])))
end
section
attribute [local push_cast] Br Bl BV V.cells_mk V.cells_len Nat.mul_one Int.sub_zero List.map_nil beq_self_eq_true List.head?_cons
theorem JA{sz o:Nat}{e:List D}(zs:List D):∀(es:List (List D)) (c:Nat),(∀x∈es,x.length=sz)->es[c]?=some e->o<=sz->∃tl,(es.flatten++zs).drop (c*sz+o)=e.drop o++tl
|[],c,_,h,_=>by simp at h
|x::es,0,hs,h,ho=>by
  simp only[BB,Ci]at h
  subst h
  have hx:=hs x (Ag ..)
  refine⟨es.flatten++zs,?_⟩
  rw[AL,Ai,Fe,Bo,DF q_o]
|x::es,c+1,hs,h,ho=>by
  rw[Bq]at h
  obtain⟨tl,ht⟩:=JA zs es c (λy hy=>hs y (Ae _ hy)) h ho
  have hx:=hs x (Ag ..)
  refine⟨tl,?_⟩
  rw[AL,Ai,show(c+1)*sz+o=sz+(c*sz+o) by rw[Cr];omega,<-CY,Qm hx,ht]
theorem Wg{e R ds:List D}{sz o:Nat}(he:e.length=sz):DJ (e++R) (sz+o) ds=e++DJ R o ds:=by
 unfold DJ
 rw[dY,Bj (l:=e) q_o,show sz+o - e.length=o by omega,show sz+o+ds.length=sz+(o+ds.length) by omega,<-CY,Qm he]
 simp only[Ai]
theorem GX{sz o:Nat}{e ds:List D}(zs:List D):∀(es:List (List D)) (c:Nat),(∀x∈es,x.length=sz)->es[c]?=some e->o+ds.length<=sz->DJ (es.flatten++zs) (c*sz+o) ds=(es.set c (DJ e o ds)).flatten++zs
|[],c,_,h,_=>by simp at h
|x::es,0,hs,h,ho=>by
  simp only[BB,Ci]at h
  subst h
  have hx:=hs x (Ag ..)
  rw[List.set_cons_zero,AL,AL,Fe,Bo]
  unfold DJ
  rw[show x++es.flatten++zs=x++(es.flatten++zs)from Ai ..,CH q_o,DF q_o]
  simp only[Ai]
|x::es,c+1,hs,h,ho=>by
  rw[Bq]at h
  have:=GX zs es c (λy hy=>hs y (Ae _ hy)) h ho
  have hx:=hs x (Ag ..)
  rw[List.set_cons_succ,AL,AL,Ai,Ai,show(c+1)*sz+o=sz+(c*sz+o) by rw[Cr];omega,Wg hx,this]
theorem OE{P:Program}{N:Nat}{r:Option Nat}{A:AA}{b b' b'':Nat}{ty ty' ty'':TypeId}{cs cs' cs'':List D}{s:St}{Q:Exit->AA->St->Prop}{l:List Oper}{id:Nat}(hm:P.follows .mixedOrders=true)(hB:JE .any l.toArray=true)(hok:GR N l=true)
 (h:(b' == b)=false->(b'' == b)=false->(b'' == b')=false->W P r (some (Ly (.box b ty cs::.box b' ty' cs'::.box b'' ty'' cs''::s))) l.toArray (Q .normal) l A (.box b ty cs::.box b' ty' cs'::.box b'' ty'' cs''::s)):Tr P N r (.region id l.toArray true) A (.box b ty cs::.box b' ty' cs'::.box b'' ty'' cs''::s) Q:=by
 intro a w ha hh
 have h1:=AX.1 hh.1
 have h2:=AX.1 h1.2
 have n1:b'≠b:=λe=>h1.1 (.box b' ty' cs') (List.Mem.head _) b rfl (by rw[<-e];rfl)
 have n2:b''≠b:=λe=>h1.1 (.box b'' ty'' cs'') (List.Mem.tail _ (List.Mem.head _)) b rfl (by rw[<-e];rfl)
 have n3:b''≠b':=λe=>h2.1 (.box b'' ty'' cs'') (List.Mem.head _) b' rfl (by rw[<-e];rfl)
 exact FL _ hm hB hok (EL _) (h (beq_eq_false_iff_ne.2 n1) (beq_eq_false_iff_ne.2 n2) (beq_eq_false_iff_ne.2 n3)) a w ha hh
theorem RD{st:St}{bx gs gc m1 m2 cS cC:Nat}{T T1 T2:TypeId}{R1 R2 zS zC:List D}{L1 L2:List (List D)}(h1:Res.box bx T [.ar gs 0 m1 cS,.ar gc 0 m2 cC]∈st)(h2:Res.box gs T1 (R1++zS)∈st)(h3:Res.box gc T2 (R2++zC)∈st)
 (f1:L1.flatten=R1)(e1:∀e∈L1,e.length=7)(l1:L1.length=m1)(f2:L2.flatten=R2)(e2:∀e∈L2,e.length=1)(l2:L2.length=m2):Lend st (.ptr bx 0) (.ip [.sl .shared L1,.sl .shared L2]) :=
 Lend.ptr h1 ⟨Lend.rowE h2 f1 (by decide) e1 l1,Lend.rowE h3 f2 (by decide) e2 l2,trivial⟩ (by
  intro d hd
  simp only[Ax,AP,or_false]at hd
  rcases hd with rfl|rfl<;>rfl)
theorem bo(bx gs cS gc cC:Nat)(zS zC:List D)(x:Vr)(stp:Stp)(hx:VW x)(hs:stp.Ok)(hz:VL cS zS cC zC x)(s:St):TrF prog 187 [.ptr bx 0,.agg stp.cells] (VB bx gs cS zS gc cC zC x s) (GU Sch.loseS x stp bx s):=by
 obtain⟨ls,lc,hcs⟩:=hx
 obtain⟨hn,hbg,ho⟩:=hs
 obtain⟨hz1,hz2⟩:=hz
 have hK:=LV x stp [] q_o q_o
 have hB:=Mv stp.slot false false hbg
 have hF:Hid (Sch.loseS x stp=if Sch.column x stp=true/\Sch.bare stp.slot false false=true/\x.cols.length≠1 then some ⟨x.slots,x.cols.eraseIdx stp.col.toNat⟩else none):=rfl
 have e1:=Aa (Fp x.slots)
 have e2:=Aa (Fz x.cols)
 have f1:=Aa (IL x)
 have f2:=Aa (IB x)
 have l1:Hid ((x.slots.map Sl.cells).length=x.slots.length):=Ab ..
 have l2:Hid ((x.cols.map BV).length=x.cols.length):=Ab ..
 unfold GU VL VB Stp.cells
 generalize Sch.loseS x stp=F at *
 cases hcl:Sch.column x stp with
|false =>
  rw[hcl]at hK hF
  unfold Vr.cells Stp.cells at hK
  clear hcl
  cases stp with
  | mk kd col slot order =>
  cases slot with
  | mk nm ty rq dv =>
  cases dv with
  | mk k n sv l =>
  dsimp only at ho |-
  generalize Db x.slots=R1 at *
  generalize DK x.cols=R2 at *
  generalize x.slots.map Sl.cells=L1 at *
  generalize x.cols.map BV=L2 at *
  rw[Sl.cells_mk]at *
  dsimp only[List.cons_append,List.nil_append]at hK |-
  generalize x.slots.length=m1 at *
  generalize x.cols.length=m2 at *
  replace hK:=Aa hK
  refine Qin [4] func187 results187 ntmps187 ?_
  repeat' (first|refine QX ?_|refine QB ?_;intro b|with_reducible refine QZ ?_<;>(try constructor)<;>intro hb<;>try intro hb1|((with_reducible apply(Ft call202));(focus exact hK.out);(focus exact⟨RD q_m q_m q_m f1.out e1.out l1.out f2.out e2.out l2.out,Lend.refl _,trivial⟩))|fail)
  all_goals((refine Bf q_x q_y q_u (LE.of_eq ?_) (.inl ⟨?_,rfl,rfl⟩));(focus simp(disch:=omega) only[push_cast,simprocAttr, *]);(focus(rw[hF.out];refine if_neg ?_;rintro⟨h1,h2,h3⟩;(first|omega|exact Bool.noConfusion (h1.symm.trans (by assumption):true=false)|exact Bool.noConfusion (h2.symm.trans (by assumption):true=false)|exact Bool.noConfusion (h3.symm.trans (by assumption):true=false)|(exact Bool.noConfusion (h1:false=true))))))
|true =>
  obtain⟨hk1,hk2,hk3⟩:0<=stp.col/\stp.col<x.cols.length/\stp.order.length=0:=by
   unfold Sch.column at hcl
   simpa [and_assoc]using hcl
  obtain⟨i,hi⟩:=DZ hk1
  have hlt:i<x.cols.length:=by omega
  rw[hcl]at hK hF
  unfold Vr.cells Stp.cells at hK
  clear hcl hk1 hk2
  have hD:=λs=>gn gc cC i x.cols zC hlt hz2 s
  have hcl2:=Gn (x.cols.eraseIdx i)
  have hcl:=Gn x.cols
  have hel:(x.cols.eraseIdx i).length+1=x.cols.length:=by rw[Hh hlt];omega
  obtain⟨x',hx'⟩:∃x':Vr,x'=⟨x.slots,x.cols.eraseIdx stp.col.toNat⟩:=⟨_,rfl⟩
  rw[<-hx']at hF
  rw[hi,BR]at hx'
  have s1:Hid (x'.slots=x.slots):=Aa (by rw[hx'])
  have s2:Hid (x'.cols=x.cols.eraseIdx i):=Aa (by rw[hx'])
  clear hx'
  generalize hE:x.cols.eraseIdx i=ec at *
  generalize Sch.bare stp.slot false false=q at *
  generalize hRE:DK ec=RE at *
  generalize hme:ec.length=me at *
  replace hE:=Aa hE
  replace hRE:=Aa hRE
  replace hme:=Aa hme
  replace hel:=Aa hel
  replace hcl2:=Aa hcl2
  replace hcl:=Aa hcl
  cases stp with
  | mk kd col slot order =>
  cases slot with
  | mk nm ty rq dv =>
  cases dv with
  | mk k n sv l =>
  dsimp only at hB ho hi hF |-
  subst hi
  generalize hR1:Db x.slots=R1 at *
  generalize hR2:DK x.cols=R2 at *
  generalize x.slots.map Sl.cells=L1 at *
  generalize x.cols.map BV=L2 at *
  rw[Sl.cells_mk]at *
  dsimp only[List.cons_append,List.nil_append]at hK |-
  generalize hm1:x.slots.length=m1 at *
  generalize hm2:x.cols.length=m2 at *
  replace hR1:=Aa hR1
  replace hR2:=Aa hR2
  replace hm1:=Aa hm1
  replace hm2:=Aa hm2
  replace hK:=Aa hK
  replace hB:=Aa hB
  replace hD:=Aa hD
  refine Qin [4] func187 results187 ntmps187 ?_
  repeat' (first|refine QV ?_|((with_reducible refine FL [(bx,[.ar gs 0 m1 cS,.ar gc 0 m2 cC])] ?_ ?_ ?_ ?_ ?_);(iterate 3 (focus kernel_rfl));(focus((repeat(first|exact BI|refine BX q_m ?_));done)))|((with_reducible refine And.intro ?_ ?_);(focus exact q_k))|refine QY ?_|refine QB ?_;intro b|with_reducible refine QZ ?_<;>(try constructor)<;>intro hb<;>try intro hb1|((with_reducible apply(Ft call202));(focus exact hK.out);(focus exact⟨RD q_m q_m q_m f1.out e1.out l1.out f2.out e2.out l2.out,Lend.refl _,trivial⟩))|fail)
  all_goals first
   | ((refine Bf q_x q_y q_u (LE.of_eq ?_) (.inl ⟨?_,rfl,rfl⟩));(focus simp(disch:=omega) only[push_cast,simprocAttr, *]);(focus(rw[hF.out];refine if_neg ?_;rintro⟨h1,h2,h3⟩;(first|omega|exact Bool.noConfusion (h1.symm.trans (by assumption):true=false)|exact Bool.noConfusion (h2.symm.trans (by assumption):true=false)|exact Bool.noConfusion (h3.symm.trans (by assumption):true=false)|(exact Bool.noConfusion (h1:false=true))))))
   | ((refine Bf q_x q_y (Aj _) (LE.of_eq ?_) (.inr ⟨x',gs,cS,zS,gc,cC,D.i 0::zC,?_,⟨?_,?_⟩,rfl,?_⟩));(focus simp(disch:=omega) only[push_cast,simprocAttr, *]);(focus(rw[hF.out];refine if_pos ⟨rfl,?_,?_⟩<;>first|assumption|omega));(focus(rw[s1.out,hR1.out];exact hz1));(focus(rw[s2.out,hRE.out];have h1:=hel.out;have h2:=hcl2.out;have h3:=hcl.out;rw[Ad]at hz2 |-;rw[An];omega));(focus(rw[s1.out,s2.out,hR1.out,hRE.out,hm1.out,hme.out])))
theorem Pn{α:Type}{l:List α}{f:α->α}{i:Nat}{y:α}(h:l[i]?=some y):l.modify i f=l.set i (f y):=by
 apply Cx
 intro j
 rw[FJ,GN]
 by_cases hj:i=j
 . subst hj
   obtain⟨hlt,rfl⟩:=Af.1 h
   simp[hlt]
 . simp[hj]
theorem Wi(bx gs cS gc cC:Nat)(zS zC:List D)(x:Vr)(stp:Stp)(hx:VW x)(hs:stp.Ok)(hz:VL cS zS cC zC x)(s:St):TrF prog 188 [.ptr bx 0,.agg stp.cells] (VB bx gs cS zS gc cC zC x s) (GU Sch.renameS x stp bx s):=by
 obtain⟨ls,lc,hcs⟩:=hx
 obtain⟨hn,hbg,ho⟩:=hs
 obtain⟨hz1,hz2⟩:=hz
 have hK:=LV x stp [] q_o q_o
 have hB:=Mv stp.slot true false hbg
 have hN:=II stp.slot.name
 have hC:=SR x.slots x.cols stp.slot.name q_o q_o []
 have hF:Hid (Sch.renameS x stp=if Sch.column x stp=true/\Sch.bare stp.slot true false=true/\V.isName stp.slot.name.data.toList=true/\Sch.colL x.slots stp.slot.name x.cols<0 then some ⟨x.slots.modify (Sch.at_ x stp) λy=>{y with name:=stp.slot.name},x.cols⟩else none):=rfl
 have e1:=Aa (Fp x.slots)
 have e2:=Aa (Fz x.cols)
 have f1:=Aa (IL x)
 have f2:=Aa (IB x)
 have l1:Hid ((x.slots.map Sl.cells).length=x.slots.length):=Ab ..
 have l2:Hid ((x.cols.map BV).length=x.cols.length):=Ab ..
 unfold GU VL VB Stp.cells
 generalize Sch.renameS x stp=F at *
 cases hcl:Sch.column x stp with
|false =>
  rw[hcl]at hK hF
  unfold Vr.cells Stp.cells at hK
  clear hcl
  cases stp with
  | mk kd col slot order =>
  cases slot with
  | mk nm ty rq dv =>
  cases dv with
  | mk k n sv l =>
  dsimp only at ho |-
  generalize Db x.slots=R1 at *
  generalize DK x.cols=R2 at *
  generalize x.slots.map Sl.cells=L1 at *
  generalize x.cols.map BV=L2 at *
  rw[Sl.cells_mk]at *
  dsimp only[List.cons_append,List.nil_append]at hK |-
  generalize x.slots.length=m1 at *
  generalize x.cols.length=m2 at *
  replace hK:=Aa hK
  refine Qin [4] func188 results188 ntmps188 ?_
  repeat' (first|refine QX ?_|refine QB ?_;intro b|with_reducible refine QZ ?_<;>(try constructor)<;>intro hb<;>try intro hb1|((with_reducible apply(Ft call202));(focus exact hK.out);(focus exact⟨RD q_m q_m q_m f1.out e1.out l1.out f2.out e2.out l2.out,Lend.refl _,trivial⟩))|fail)
  all_goals((refine Bf q_x q_y q_u (LE.of_eq ?_) (.inl ⟨?_,rfl,rfl⟩));(focus simp(disch:=omega) only[push_cast,simprocAttr, *]);(focus(rw[hF.out];refine if_neg ?_;rintro⟨h1,h2,h3,h4⟩;(first|omega|exact Bool.noConfusion (h1.symm.trans (by assumption):true=false)|exact Bool.noConfusion (h2.symm.trans (by assumption):true=false)|exact Bool.noConfusion (h3.symm.trans (by assumption):true=false)|exact Bool.noConfusion (h4.symm.trans (by assumption):true=false)|(exact Bool.noConfusion (h1:false=true))))))
|true =>
  obtain⟨hk1,hk2,hk3⟩:0<=stp.col/\stp.col<x.cols.length/\stp.order.length=0:=by
   unfold Sch.column at hcl
   simpa [and_assoc]using hcl
  obtain⟨i,hi⟩:=DZ hk1
  have hlt:i<x.cols.length:=by omega
  rw[hcl]at hK hF
  unfold Vr.cells Stp.cells at hK
  clear hcl hk1 hk2
  obtain⟨c,hc⟩:=gEx hlt
  have hcm:c<x.slots.length:=hcs c (Ah hc)
  obtain⟨y,hy⟩:=gEx hcm
  have hat:Sch.at_ x stp=c:=by
   unfold Sch.at_
   rw[hi,BR,AW,hc];rfl
  have hL2:(x.cols.map BV)[i]?=some [D.i c]:=by rw[Aq,hc];rfl
  have hL1:(x.slots.map Sl.cells)[c]?=some y.cells:=by rw[Aq,hy];rfl
  obtain⟨t1,hld⟩:∃tl,List.drop i (DK x.cols++zC)=D.i c::tl:=by
   obtain⟨tl,h⟩:=JA (sz:=1) (o:=0) zC _ i (Fz x.cols) hL2 q_o
   rw[CG,Ed]at h
   exact⟨tl,h⟩
  obtain⟨x',hx'⟩:∃x':Vr,x'=⟨x.slots.modify (Sch.at_ x stp) λy=>{y with name:=stp.slot.name},x.cols⟩:=⟨_,rfl⟩
  rw[<-hx']at hF
  rw[hat,Pn hy]at hx'
  have s1:Hid (x'.slots=x.slots.set c {y with name:=stp.slot.name}):=Aa (by rw[hx'])
  have s2:Hid (x'.cols=x.cols):=Aa (by rw[hx'])
  have s3:Hid ((x.slots.set c {y with name:=stp.slot.name}).length=x.slots.length):=AV
  have hsp:List.take (c*7) (Db x.slots++zS)++[D.str stp.slot.name]++List.drop (c*7+1) (Db x.slots++zS)=Db (x.slots.set c {y with name:=stp.slot.name})++zS:=by
   have h:=GX (o:=0) (ds:=[D.str stp.slot.name]) zS _ c (Fp x.slots) hL1 (by simp)
   rw[show DJ y.cells 0 [D.str stp.slot.name]=Sl.cells {y with name:=stp.slot.name}from rfl,show(x.slots.map Sl.cells).set c (Sl.cells {y with name:=stp.slot.name})=(x.slots.set c {y with name:=stp.slot.name}).map Sl.cells from(Ff ..).symm]at h
   exact h
  have hle:c*7+1<=cS*7:=by
   have:=EX x.slots
   rw[Ad]at hz1
   omega
  have hl3:(Db (x.slots.set c {y with name:=stp.slot.name})++zS).length=cS*7:=by
   rw[Ad]at hz1 |-
   rw[EX,AV,<-EX];exact hz1
  clear hx' hat hL1 hL2 hy hc
  generalize Sch.bare stp.slot true false=q at *
  generalize V.isName stp.slot.name.data.toList=qn at *
  generalize Sch.colL x.slots stp.slot.name x.cols=cv at *
  generalize hRE:Db (x.slots.set c {y with name:=stp.slot.name})=RE at *
  replace hRE:=Aa hRE
  replace hl3:=Aa hl3
  cases stp with
  | mk kd col slot order =>
  cases slot with
  | mk nm ty rq dv =>
  cases dv with
  | mk k n sv l =>
  dsimp only at hB hN hC ho hi hF |-
  subst hi
  generalize hR1:Db x.slots=R1 at *
  generalize hR2:DK x.cols=R2 at *
  generalize x.slots.map Sl.cells=L1 at *
  generalize x.cols.map BV=L2 at *
  rw[Sl.cells_mk]at *
  dsimp only[List.cons_append,List.nil_append]at hK |-
  generalize hm1:x.slots.length=m1 at *
  generalize hm2:x.cols.length=m2 at *
  replace hR1:=Aa hR1
  replace hR2:=Aa hR2
  replace hm1:=Aa hm1
  replace hm2:=Aa hm2
  replace hK:=Aa hK
  replace hB:=Aa hB
  replace hN:=Aa hN
  replace hC:=Aa hC
  refine Qin [4] func188 results188 ntmps188 ?_
  repeat' (first|refine QV ?_|((with_reducible refine OE ?_ ?_ ?_ ?_);(iterate 3 (focus kernel_rfl));intro hne1 hne2 hne3)|refine QY ?_|refine QB ?_;intro b|with_reducible refine QZ ?_<;>(try constructor)<;>intro hb<;>try intro hb1|((with_reducible apply(Ft call202));(focus exact hK.out);(focus exact⟨RD q_m q_m q_m f1.out e1.out l1.out f2.out e2.out l2.out,Lend.refl _,trivial⟩))|((with_reducible apply(Ft call184));(focus exact hC.out);(focus exact⟨Lend.agg ⟨Lend.rowE q_m f1.out (by decide) e1.out l1.out,Lend.rowE q_m f2.out (by decide) e2.out l2.out,trivial⟩,Lend.refl _,trivial⟩))|fail)
  all_goals first
   | ((refine Bf q_x q_y q_u (LE.of_eq ?_) (.inl ⟨?_,rfl,rfl⟩));(focus simp(disch:=omega) only[push_cast,simprocAttr, *]);(focus(rw[hF.out];refine if_neg ?_;rintro⟨h1,h2,h3,h4⟩;(first|omega|exact Bool.noConfusion (h1.symm.trans (by assumption):true=false)|exact Bool.noConfusion (h2.symm.trans (by assumption):true=false)|exact Bool.noConfusion (h3.symm.trans (by assumption):true=false)|exact Bool.noConfusion (h4.symm.trans (by assumption):true=false)|(exact Bool.noConfusion (h1:false=true))))))
   | ((refine Bf q_x q_y (Aj _) (LE.of_eq ?_) (.inr ⟨x',gs,cS,zS,gc,cC,zC,?_,⟨?_,?_⟩,rfl,?_⟩));(focus simp(disch:=omega) only[push_cast,simprocAttr, *]);(focus(rw[hF.out];refine if_pos ⟨rfl,?_,?_,?_⟩<;>first|assumption|omega));(focus(rw[s1.out,hRE.out];exact hl3.out));(focus(rw[s2.out,hR2.out];exact hz2));(focus(rw[s1.out,s2.out,s3.out,hRE.out,hR2.out,hm2.out])))
end
end Go.Proofs.YtoeidpmjifjplaaGreat
