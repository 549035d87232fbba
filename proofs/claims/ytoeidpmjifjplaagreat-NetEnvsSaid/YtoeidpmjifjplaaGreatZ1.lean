/- Texts put together. No statement is proved here. -/
import Derived.WalkKit
import Derived.WalkSpells
import Derived.WalkLawsBesides
import Derived.OwnWalkIn
import Derived.Lib.Hide
import Derived.Laws.BitsAllLaws
import Derived.Maps.AppendAt
import Derived.RangeFuncNested
import Derived.RangeFuncLeaves
import Derived.RangeFuncCalls
import Derived.Laws.CopyRow
set_option linter.all false
set_option maxRecDepth 10000
set_option maxHeartbeats 8000000
namespace Go.Proofs.YtoeidpmjifjplaaGreat
open Go.RowKit
abbrev Aa:=@Lib.hid
abbrev Ab:=@List.length_map
abbrev Ad:=@List.length_append
abbrev Ae:=@List.mem_cons_of_mem
abbrev Af:=@List.getElem?_eq_some_iff
abbrev Ag:=@List.mem_cons_self
abbrev Ah:=@List.mem_of_getElem?
abbrev Ai:=@List.append_assoc
abbrev Aj:=@List.Sublist.refl
abbrev Al:=@List.getElem?_eq_getElem
abbrev Am:=@Result.andThen_ok
abbrev An:=@List.length_cons
abbrev Ao:=@Nat.zero_le
abbrev Ap:=@Nat.le_refl
abbrev Aq:=@List.getElem?_map
abbrev Ar:=@List.Perm.refl
abbrev Au:=@List.map_cons
abbrev Av:=@List.mem_map
abbrev Aw:=@Bool.false_and
abbrev Ax:=@List.mem_cons
abbrev Ay:=@List.eq_nil_of_length_eq_zero
abbrev Az:=@List.drop_of_length_le
abbrev AB:=@List.mem_singleton
abbrev AD:=@List.perm_middle
abbrev AE:=@Array.getElem?_eq_some_iff
abbrev AF:=@Bool.and_eq_true
abbrev AG:=@Sem.run_bind
abbrev AH:=@Bool.true_and
abbrev AI:=@List.cons_append
abbrev AJ:=@Bool.false_ne_true
abbrev AK:=@List.sublist_cons_self
abbrev AL:=@List.flatten_cons
abbrev AM:=@List.nil_append
abbrev AN:=@Sem.run_pure
abbrev AO:=@List.length_drop
abbrev AP:=@List.not_mem_nil
abbrev AQ:=@List.length_take
abbrev AR:=@Array.length_toList
abbrev AU:=@List.all_eq_true
abbrev AV:=@List.length_set
abbrev AW:=@List.getD_eq_getElem?_getD
abbrev AX:=@List.pairwise_cons
abbrev AY:=@List.append_nil
abbrev Ba:=@List.getElem?_append_left
abbrev Bb:=@List.nodup_cons
abbrev Bc:=@List.mem_append
abbrev Be:=@Array.getElem?_eq_getElem
abbrev Bh:=@List.mem_append_right
abbrev Bi:=@List.map_append
abbrev Bj:=@List.take_of_length_le
abbrev Bk:=@List.take_add_one
abbrev Bm:=@List.perm_append_comm
abbrev Bo:=@Nat.zero_add
abbrev Bp:=@List.mem_append_left
abbrev Bq:=@List.getElem?_cons_succ
abbrev Bu:=@Bool.false_or
abbrev Bv:=@List.take_append_drop
abbrev Bw:=@Option.toList_some
abbrev Bz:=@List.getElem?_eq_none
abbrev BA:=@List.getElem?_set_self
abbrev BB:=@List.getElem?_cons_zero
abbrev BD:=@Nat.le_of_ble_eq_true
abbrev BE:=@List.length_singleton
abbrev BF:=@Array.getElem?_toList
abbrev BH:=@List.map_nil
abbrev BJ:=@List.mem_map_of_mem
abbrev BL:=@Nat.not_lt_zero
abbrev BM:=@List.drop_eq_getElem_cons
abbrev BN:=@Bool.false_eq_true
abbrev BP:=@List.getElem?_append_right
abbrev BQ:=@Bool.true_or
abbrev BR:=@Int.toNat_natCast
abbrev BS:=@Option.bind_some
abbrev BT:=@List.getElem?_of_mem
abbrev BU:=@Bool.or_eq_false_iff
abbrev BW:=@List.findIdx?_eq_some_iff_getElem
abbrev Ca:=@List.flatMap_cons
abbrev Cb:=@List.take_length
abbrev Cd:=@List.length_nil
abbrev Cf:=@List.filter_cons_of_pos
abbrev Cg:=@List.filter_cons_of_neg
abbrev Ch:=@List.drop_zero
abbrev Ci:=@Option.some.injEq
abbrev Cj:=@List.eq_nil_iff_forall_not_mem
abbrev Cl:=@Option.some.inj
abbrev Cm:=@List.length_pos_iff
abbrev Co:=@Bool.or_eq_true
abbrev Cp:=@Nat.le_trans
abbrev Cq:=@Array.getElem?_append_left
abbrev Cr:=@Nat.succ_mul
abbrev Cs:=@Bool.not_eq_true'
abbrev Cv:=@Array.getD_eq_getD_getElem?
abbrev Cx:=@List.ext_getElem?
abbrev Cy:=@DataW.trod_struct
abbrev CA:=@List.nodup_nil
abbrev CD:=@Bool.and_false
abbrev CG:=@Nat.mul_one
abbrev CH:=@List.take_append_of_le_length
abbrev CI:=@List.mem_of_find?_eq_some
abbrev CK:=@Option.map_some
abbrev CL:=@List.length_tail
abbrev CM:=@Nat.mul_le_mul_right
abbrev CN:=@List.drop_left
abbrev CO:=@List.drop_eq_nil_of_le
abbrev CQ:=@List.filterMap_cons_some
abbrev CU:=@List.Perm.append_left
abbrev CW:=@List.flatten_append
abbrev CX:=@List.take_zero
abbrev CY:=@List.drop_drop
abbrev Dd:=@List.sublist_append_left
abbrev De:=@List.filterMap_cons_none
abbrev Df:=@List.getElem_of_mem
abbrev Di:=@Array.getElem?_modify
abbrev Dk:=@Bool.or_true
abbrev Dq:=@List.getElem?_take
abbrev Dr:=@List.find?_eq_none
abbrev Dv:=@Nat.lt_or_ge
abbrev Dw:=@Nat.add_comm
abbrev Dx:=@List.mem_flatMap
abbrev Dy:=@List.getElem_map
abbrev DD:=@List.filterMap_cons
abbrev DF:=@List.drop_append_of_le_length
abbrev DG:=@List.any_eq_false
abbrev DM:=@Prod.mk.injEq
abbrev DV:=@World.putObj_heap_other
abbrev DW:=@Nat.pow_le_pow_right
abbrev DX:=@List.getElem?_set_ne
abbrev DY:=@List.eraseIdx_cons_succ
abbrev DZ:=@Int.eq_ofNat_of_zero_le
abbrev Ed:=@Nat.add_zero
abbrev Ee:=@Array.getElem?_eq_none
abbrev Eg:=@List.take_succ_cons
abbrev Eh:=@List.map_eq_nil_iff
abbrev Ei:=@List.filter_sublist
abbrev Ej:=@Bool.eq_iff_iff
abbrev Eo:=@List.getElem?_toArray
abbrev Es:=@List.suffix_refl
abbrev Et:=@List.filter_append
abbrev Eu:=@Bool.true_eq_false
abbrev Ew:=@Bool.not_eq_false'
abbrev Ey:=@List.map_map
abbrev Ez:=@Array.getElem?_replicate
abbrev EA:=@List.pairwise_append
abbrev EE:=@List.pairwise_map
abbrev EG:=@List.getElem_drop
abbrev EP:=@List.mem_filter
abbrev Fe:=@Nat.zero_mul
abbrev Ff:=@List.map_set
abbrev Fg:=@List.Perm.append_right
abbrev Fh:=@Bool.or_false
abbrev Fi:=@Bool.not_true
abbrev Fj:=@Nat.le_add_right
abbrev Fk:=@Below.heap_alloc
abbrev Fu:=@List.mem_range
abbrev Fv:=@List.getElem?_drop
abbrev Fw:=@List.length_filter_le
abbrev FA:=@List.pairwise_iff_getElem
abbrev FD:=@Go.MapKept.run_getObj_map
abbrev FE:=@List.find?_some
abbrev FF:=@Nat.add_mul
abbrev FG:=@List.nodup_append
abbrev FH:=@List.mem_of_mem_drop
abbrev FI:=@List.getElem_take
abbrev FJ:=@List.getElem?_modify
abbrev FU:=@Nat.add_assoc
abbrev Ge:=@Nat.lt_succ_self
abbrev Gf:=@Nat.and_two_pow_sub_one_eq_mod
abbrev Gg:=@List.map_toArray
abbrev Gh:=@List.eraseIdx_cons_zero
abbrev Gi:=@List.cons_ne_nil
abbrev Gj:=@Bool.not_eq_true
abbrev Gu:=@Nat.sub_self
abbrev Gv:=@List.any_nil
abbrev GA:=@List.find?_cons
abbrev GD:=@Bool.and_true
abbrev GN:=@List.getElem?_set
abbrev GO:=@Array.getElem?_append_right
abbrev Hh:=@List.length_eraseIdx_of_lt
abbrev Hi:=@Int.tmod_eq_emod_of_nonneg
abbrev Hk:=@Bool.not_false
abbrev Hs:=@Option.getD_some
abbrev Ht:=@List.mem_flatten
abbrev Hu:=@List.getElem_mem
abbrev Hv:=@List.drop_length
abbrev Hw:=@List.sublist_append_right
abbrev Hx:=@List.extract_eq_take_drop
abbrev Ig:=@List.replicate_succ
abbrev Ih:=@Int.toNat_of_nonneg
abbrev IE:=@List.Perm.of_eq
abbrev IZ:=@Nat.lt_of_lt_of_le
abbrev Ju:=@List.take_left
abbrev Jv:=@List.getElem?_inj
abbrev JK:=@List.filterMap_append
abbrev JL:=@Bool.and_eq_false_iff
abbrev Kd:=@List.drop_append
abbrev Ke:=@Array.ext'
abbrev Kq:=@List.all_cons
abbrev Ks:=@Bool.or_assoc
abbrev Kt:=@List.mem_of_mem_take
abbrev Ku:=@List.getElem?_append
abbrev Kv:=@Array.getElem_toList
abbrev KZ:=@Nat.min_eq_left
abbrev Lq:=@List.length_reverse
abbrev Lr:=@List.flatMap_append
abbrev Ls:=@List.filter_eq_self
abbrev Lu:=@List.drop_succ_cons
abbrev LA:=@Ne.symm
abbrev LD:=@Nat.sub_zero
abbrev Me:=@Nat.eq_zero_or_pos
abbrev Mf:=@Nat.add_sub_cancel
abbrev Mg:=@List.mem_filterMap
abbrev Mh:=@List.append_of_mem
abbrev Mi:=@Int.tdiv_eq_ediv_of_nonneg
abbrev Mj:=@Array.foldl_toList
abbrev MZ:=@List.findIdx?_eq_none_iff
abbrev Na:=@List.filterMap_eq_nil_iff
abbrev Nb:=@Go.MapKept.run_setObj_map
abbrev Ng:=@World.cells?_some
abbrev Nh:=@Option.map_eq_map
abbrev Ni:=@Nat.lt_trichotomy
abbrev Nj:=@List.size_toArray
abbrev Nk:=@List.length_range
abbrev Nl:=@Iff.rfl
abbrev NR:=@Option.isSome_iff_exists
abbrev NU:=@List.map_take
abbrev NV:=@List.length_filterMap_le
abbrev NW:=@List.getElem?_take_of_lt
abbrev NY:=@Array.setIfInBounds_comm
abbrev Om:=@Nat.mod_eq_of_lt
abbrev Oo:=@List.mem_toArray
abbrev Oq:=@Array.mem_append
abbrev Qd:=@Option.map_eq_none_iff
abbrev Qe:=@Nat.pow_succ
abbrev Qg:=@Nat.mul_comm
abbrev Qh:=@Go.MapKept.run_findKey
abbrev Qi:=@Oper.apart_spec
abbrev Qj:=@List.take_left'
abbrev Qk:=@List.foldl_cons
abbrev Qm:=@List.drop_left'
abbrev QE:=@List.length_replicate
abbrev QF:=@Classical.choose_spec
abbrev QG:=@Array.getElem?_mapIdx
abbrev SF:=@Array.getElem?_setIfInBounds_self_of_lt
abbrev TM:=@List.perm_cons
abbrev TN:=@List.getElem?_zipIdx
abbrev TP:=@Int.le_refl
abbrev VR:=@List.getElem?_range
abbrev VU:=@Oper.semAt_eq
abbrev VV:=@List.any_cons
abbrev Xq:=@Nat.lt_of_le_of_lt
abbrev Xr:=@List.length_zipIdx
abbrev Xs:=@List.filterMap_nil
abbrev Xt:=@List.append_ne_nil_of_right_ne_nil
abbrev YB:=@List.set_eq_take_append_cons_drop
abbrev aI:=@Nat.le_of_lt
abbrev aJ:=@Bool.or_self
abbrev aK:=@Array.size_modify
abbrev aL:=@Array.all_eq_true_iff_forall_mem
abbrev dT:=@World.size_alloc
abbrev dW:=@Option.getD_none
abbrev dY:=@List.take_append
abbrev dZ:=@List.lookup_cons
abbrev d6:=@Array.toList_zip
abbrev ed:=@List.mem_eraseIdx_iff_getElem
abbrev ee:=@List.map_id
abbrev gU:=@UInt8.toNat_inj
abbrev gX:=@Option.any_some
abbrev gY:=@List.cons.injEq
abbrev jw:=@Lib.run_append_grow_string
abbrev lH:=@List.perm_nil
abbrev lI:=@List.map_drop
abbrev lJ:=@List.Perm.eq_of_pairwise
abbrev lK:=@Int.ofNat.inj
abbrev mq:=@Go.MapKept.run_checkKey
abbrev nK:=@Option.map_eq_some_iff
abbrev nM:=@Nat.succ_pos
abbrev nN:=@Nat.le_of_eq
abbrev nO:=@List.length_pos_of_mem
abbrev nP:=@List.getElem_cons_drop
abbrev nQ:=@Int.lt_or_le
abbrev od:=@List.getElem?_reverse
abbrev oe:=@List.Pairwise.sublist
abbrev oS:=@List.suffix_cons_iff
abbrev oT:=@List.getElem_toArray
abbrev oV:=@Array.toList_extract
abbrev oW:=@Array.toArray_toList
section
theorem Rt(a:Nat)(ha:a<18446744073709551616):(BitVec.ofInt 64 (a:Int)).toNat=a:=by
 rw[BitVec.ofInt_natCast,BitVec.toNat_ofNat];exact Om (by omega)
theorem WO(a b:Nat)(ha:a<4611686018427387904)(hb:b<4611686018427387904):bits .or .i64 (a:Int) (b:Int)=((a ||| b:Nat):Int):=by
 have hx:a ||| b<2 ^ 62:=Nat.or_lt_two_pow (by omega) (by omega)
 show IntKind.i64.wrap ((BitVec.ofInt 64 (a:Int) ||| BitVec.ofInt 64 (b:Int)).toNat:Int)=_
 rw[BitVec.toNat_or,Rt a (by omega),Rt b (by omega)]
 exact IntWalk.i64_in _ (by omega)
def bv (b:UInt8):Value:=.int .u8 (b.toNat:Int)
def iv (n:Int):Value:=.int .i64 n
def Sees {α:Type}(enc:α->Value)(w:World)(v:Value)(l:List α):Prop :=
 ∃(a:Option Addr) (cap:Nat),v=.slice a l.length cap/\l.length<=cap/\cap<=maxLen/\(a=none->cap=0) /\
  ∀b,a=some b->0<l.length->b.spot=none/\b.block<w.heap.size/\∀(i:Nat) (h:i<l.length),w.cell? ⟨b.block,b.off+i,none⟩=some (enc l[i])
section
variable {α:Type} {enc:α->Value} {w w':World} {v:Value} {l:List α}
theorem Sees.below(h:Sees enc w v l){B:Nat}(hb:Below B w w')(hB:w.heap.size<=B):Sees enc w' v l:=by
 obtain⟨a,cap,rfl,h1,h2,h3,h4⟩:=h
 refine⟨a,cap,rfl,h1,h2,h3,λb e hl=>?_⟩
 obtain⟨e1,e2,e3⟩:=h4 b e hl
 exact⟨e1,by have:=hb.size;omega,λi hi=>(hb.cell (p:=⟨b.block,b.off+i,none⟩) (by show b.block<B;omega)).trans (e3 i hi)⟩
theorem Sees.drew(h:Sees enc w v l)(n:Nat):Sees enc (w.drewN n) v l:=h
theorem Sees.nil(w:World):Sees enc w (.slice none 0 0) ([]:List α):=⟨none,0,rfl,Ap _,Ao _,λ_=>rfl,λb e _=>(by cases e)⟩
end
end
section
structure Chg (M:Nat->Prop)(A B:World):Prop where
 os:B.os=A.os
 tape:B.tape=A.tape
 output:B.output=A.output
 size:A.heap.size<=B.heap.size
 block:∀k,k<A.heap.size->¬M k->B.heap[k]?=A.heap[k]?
section
variable {M:Nat->Prop} {A B C:World}
theorem Chg.refl(M:Nat->Prop)(A:World):Chg M A A:=⟨rfl,rfl,rfl,Ap _,λ_ _ _=>rfl⟩
theorem Chg.trans(h:Chg M A B)(k:Chg M B C):Chg M A C :=
 ⟨k.os.trans h.os,k.tape.trans h.tape,k.output.trans h.output,Cp h.size k.size,λi hi hm=>(k.block i (IZ hi h.size) hm).trans (h.block i hi hm)⟩
theorem Chg.mono{M':Nat->Prop}(h:Chg M A B)(hm:∀k,k<A.heap.size->M k->M' k):Chg M' A B :=
 ⟨h.os,h.tape,h.output,h.size,λk hk hn=>h.block k hk λx=>hn (hm k hk x)⟩
theorem Chg.below{n:Nat}(h:Chg M A B)(hn:n<=A.heap.size)(hm:∀k,k<n->¬M k):Below n A B :=
 ⟨h.os,h.tape,h.output,h.size,λk hk=>h.block k (by omega) (hm k hk)⟩
theorem Chg.drewN(h:Chg M A B)(n:Nat):Chg M A (B.drewN n):=h.trans ⟨rfl,rfl,rfl,Ap _,λ_ _ _=>rfl⟩
theorem Chg.drew(h:Chg M A B):Chg M A B.drew:=h.trans ⟨rfl,rfl,rfl,Ap _,λ_ _ _=>rfl⟩
theorem Chg.alloc(h:Chg M A B)(o:Obj):Chg M A (B.alloc o):=h.trans ⟨rfl,rfl,rfl,by simp,λk hk _=>Fk _ _ _ hk⟩
theorem Chg.setCell(h:Chg M A B){p:Addr}(hp:p.block<A.heap.size->M p.block)(v:Value):Chg M A (B.setCell p v) :=
 ⟨h.os,h.tape,h.output,Cp h.size (KeepsWalks.setCell B p v).size,λk hk hn =>
  (Below.heap_setCell B p v k (λe=>hn (by subst e;exact hp hk))).trans (h.block k hk hn)⟩
theorem Chg.grown(h:Chg M A B){row:Option Nat}(hg:B.grownBy C row)(hr:∀k,row=some k->k<A.heap.size->M k):Chg M A C :=
 ⟨hg.os.trans h.os,hg.tape.trans h.tape,hg.output.trans h.output,Cp h.size hg.size,λk hk hn =>
  (hg.block k (IZ hk h.size) (λe=>hn (hr k e.symm hk))).trans (h.block k hk hn)⟩
theorem Chg.cell(h:Chg M A B){p:Addr}(hp:p.block<A.heap.size)(hn:¬M p.block):B.cell? p=A.cell? p:=World.cell?_of_block (h.block _ hp hn)
theorem Boxed.chg{b:Nat}{t:TypeId}{v:Value}(h:Boxed A b t v)(hc:Chg M A B)(hn:¬M b):Boxed B b t v:=(hc.block b h.lt hn).trans h
theorem Ob{base:Nat}{e:TypeId}{size n:Nat}{v:Value}{xs:List Value}(h:A.ownsRow base e size v n xs)(hc:Chg M A B)(hn:∀k,v.ownBlock=some k->¬M k):B.ownsRow base e size v n xs:=by
 refine⟨h.1,?_⟩
 rcases h.2 with h2|⟨g,cap,cur,rfl,hb,hg,rest⟩
 . exact .inl h2
 . exact .inr ⟨g,cap,cur,rfl,hb,(hc.block g (AE.1 hg).1 (hn g rfl)).trans hg,rest⟩
end
def iz (A B:World)(Pr:Nat->Prop):Nat->Prop:=λk=>Pr k\/(A.heap.size<=k/\k<B.heap.size)
structure Bears {β:Type}(M:Nat->Prop)(J:β->(Nat->Prop)->World->Prop):Prop where
 step:∀s Pr A B,J s Pr A->Chg M A B->J s (iz A B Pr) B
 less:∀s Pr Pr' A,J s Pr A->(∀k,Pr' k->Pr k)->J s Pr' A
def oL {α:Type}(F:Fence)(n:Nat)(P:Program)(g:Nat)(lb:Array Value)(encs:α->Array Value)(M Pr0:Nat->Prop)(G:List α->Prop)(S Sp:List α->World->Prop)(w:World):Prop :=
 ∀(l:Nat) (J Jx:List α->(Nat->Prop)->World->Prop) (W:World),Chg (λ_=>False) w W->Bears M J->Bears M Jx ->
  (∀pre x Pr W1,J pre Pr W1->(∀k,Pr0 k->Pr k)->G (pre++[x])->YieldAt F (n - 1) P l (encs x) W1 λe W' =>
   (e=.returned (.bool true)/\J (pre++[x]) Pr W'/\Chg (λk=>¬Pr k) W1 W')\/(e=.returned (.bool false)/\Jx (pre++[x]) Pr W'/\Chg (λk=>¬Pr k) W1 W')) ->
  J [] Pr0 W ->
  CallsIn F n P g (#[.func (.yield l) #[] #[]]++lb) W λe W'=>(∃v,e=.returned v)/\((∃xs,S xs W'/\J xs Pr0 W')\/(∃pre,Sp pre W'/\Jx pre Pr0 W'))
def nS {α:Type}(I:List α->(Nat->Prop)->World->Prop)(Ix:Code->List α->(Nat->Prop)->World->Prop)(xs:List α)(Pr:Nat->Prop)(W:World):Exit->Act->World->Prop
|.normal,_,W'=>Chg (fun k=>¬Pr k) W W'/\I xs Pr W'
|.ret,_,W'=>Chg (fun k=>¬Pr k) W W'/\Ix .ret xs Pr W'
|.exit id,_,W'=>Chg (λk=>¬Pr k) W W'/\Ix (.exit id) xs Pr W'
|.goto t,_,W'=>Chg (λk=>¬Pr k) W W'/\Ix (.goto t) xs Pr W'
|.panic _,_,_=>False
|.outgrown,_,_=>False
end
section
def Src (w:World)(v:Value)(m size:Nat)(news:List Value):Prop :=
 ∃(A:Option Addr) (c:Nat),v=.slice A m c/\news.length=m*size/\(0<m->∃ad,A=some ad/\∀j u,news[j]?=some u->w.cell? (ad.add j)=some u)
theorem ED(b o i:Nat):(⟨b,o,none⟩:Addr).add i=⟨b,o+i,none⟩:=by unfold Addr.add;split<;>simp_all
theorem Sees.src{α:Type}{enc:α->Value}{w:World}{v:Value}{l:List α}(h:Sees enc w v l):Src w v l.length 1 (l.map enc):=by
 obtain⟨a,cap,rfl,h1,h2,h3,h4⟩:=h
 refine⟨a,cap,rfl,by simp,λhm=>?_⟩
 cases a with
|none=>have:=h3 rfl;omega
|some b =>
  obtain⟨e1,e2,e3⟩:=h4 b rfl hm
  obtain⟨blk,off,sp⟩:=b
  dsimp only at e1 e2 e3
  subst e1
  refine⟨_,rfl,λj u hu=>?_⟩
  rw[ED]
  rw[Aq]at hu
  rcases Dv j l.length with hj|hj
  . rw[Al hj]at hu
    simp only[CK,Ci]at hu
    rw[<-hu];exact e3 j hj
  . rw[Bz hj]at hu;cases hu
theorem Src.new(w:World)(cs:Array Value)(t:TypeId)(m c size:Nat)(hs:cs.size=m*size):Src (w.alloc (.cells cs t)) (.slice (some ⟨w.heap.size,0,none⟩) m c) m size cs.toList:=by
 refine⟨_,_,rfl,by simpa using hs,λ_=>⟨_,rfl,λj u hu=>?_⟩⟩
 rw[ED,cell_of_row _ w.heap.size (0+j) cs t (0,0) (heap_alloc_new w _)]
 simpa using hu
theorem Src.keep{w w':World}{v:Value}{m size:Nat}{news:List Value}(h:Src w v m size news)(hk:∀p x,w.cell? p=some x->w'.cell? p=some x):Src w' v m size news:=by
 obtain⟨A,c,rfl,hl,hc⟩:=h
 refine⟨A,c,rfl,hl,λhm=>?_⟩
 obtain⟨ad,e,hx⟩:=hc hm
 exact⟨ad,e,λj u hu=>hk _ _ (hx j u hu)⟩
theorem Src.below{w w':World}{v:Value}{m size:Nat}{news:List Value}(h:Src w v m size news)(hb:Below w.heap.size w w'):Src w' v m size news :=
 h.keep λp _ hp=>(hb.cell (World.block_lt_of_cell? w p hp)).trans hp
section
variable {P:Program} (w:World)
end
def Coll (base B:Nat)(t e:TypeId)(size n:Nat)(xs:List Value)(M Pr:Nat->Prop)(W:World):Prop :=
 ∃v,Boxed W B t v/\¬Pr B/\¬M B/\W.ownsRow base e size v n xs/\(∀k,v.ownBlock=some k->¬Pr k/\¬M k)/\(v=.slice none 0 0↔n=0)
theorem Coll.step{base B:Nat}{t e:TypeId}{size n:Nat}{xs:List Value}{M M' Pr:Nat->Prop}{A C:World}(h:Coll base B t e size n xs M Pr A)(hc:Chg M' A C)(hm:∀k,M' k->M k):Coll base B t e size n xs M (iz A C Pr) C:=by
 obtain⟨v,h1,h2,h3,h4,h5,h6⟩:=h
 refine⟨v,Boxed.chg h1 hc (λx=>h3 (hm _ x)),?_,h3,Ob h4 hc (λk e x=>(h5 k e).2 (hm _ x)),λk e=>⟨?_,(h5 k e).2⟩,h6⟩
 . rintro(x|x)
   . exact h2 x
   . have:=h1.lt;omega
 . rintro(x|x)
   . exact(h5 k e).1 x
   . have:=(h4.lt k e).2;omega
theorem Coll.less{base B:Nat}{t e:TypeId}{size n:Nat}{xs:List Value}{M Pr Pr':Nat->Prop}{A:World}(h:Coll base B t e size n xs M Pr A)(hp:∀k,Pr' k->Pr k):Coll base B t e size n xs M Pr' A:=by
 obtain⟨v,h1,h2,h3,h4,h5,h6⟩:=h
 exact⟨v,h1,λx=>h2 (hp _ x),h3,h4,λk e=>⟨λx=>(h5 k e).1 (hp _ x),(h5 k e).2⟩,h6⟩
theorem Bears.and{β:Type}{M:Nat->Prop}{I J:β->(Nat->Prop)->World->Prop}(h:Bears M I)(k:Bears M J):Bears M (λs Pr W=>I s Pr W/\J s Pr W) :=
 ⟨λs Pr A B x hc=>⟨h.step s Pr A B x.1 hc,k.step s Pr A B x.2 hc⟩,λs Pr Pr' A x hp=>⟨h.less s Pr Pr' A x.1 hp,k.less s Pr Pr' A x.2 hp⟩⟩
theorem Bears.false{β:Type}(M:Nat->Prop):Bears M (λ(_:β) _ _=>False):=⟨λ_ _ _ _ h _=>h,λ_ _ _ _ h _=>h⟩
theorem Bears.pure{β:Type}(M:Nat->Prop)(p:β->Prop):Bears M (λ(s:β) _ _=>p s):=⟨λ_ _ _ _ h _=>h,λ_ _ _ _ h _=>h⟩
theorem Bears.below{β:Type}{M:Nat->Prop}{n:Nat}{w:World}(hn:n<=w.heap.size)(hM:∀k,k<n->¬M k):Bears M (λ(_:β) _ W=>Below n w W) :=
 ⟨λ_ _ _ _ h hc=>h.trans (hc.below (by have:=h.size;omega) hM),λ_ _ _ _ h _=>h⟩
theorem Coll.appended{W w1:World}{base B:Nat}{t e:TypeId}{size k m:Nat}{v v':Value}{xs ys:List Value}{M Pr:Nat->Prop}{tmp:Obj}(hv:Boxed W B t v)(hPB:¬Pr B)(hMB:¬M B)(hrow:W.ownsRow base e size v k xs)(hvb:∀k,v.ownBlock=some k->¬Pr k/\¬M k)
 (hte:t≠e)(hM:∀k,M k->k<W.heap.size)(hP:∀k,Pr k->k<W.heap.size)
 (hown':w1.ownsRow base e size v' m ys)(hc:Chg (λk=>v.ownBlock=some k) (W.alloc tmp) w1)(hb:v'.ownBlock=v.ownBlock\/v'.ownBlock=some (W.alloc tmp).heap.size)(hn:v'=.slice none 0 0↔m=0) :
 Boxed w1 B t v/\Coll base B t e size m ys M Pr (w1.setCell ⟨B,0,none⟩ v')/\Chg (λk=>¬Pr k) W (w1.setCell ⟨B,0,none⟩ v'):=by
 have hbv:¬v.ownBlock=some B:=λe=>(hv.not_row hte hrow) e.symm
 have h1:Boxed w1 B t v:=Boxed.chg (hv.alloc tmp) hc hbv
 have hbv':¬v'.ownBlock=some B:=λe=>(h1.not_row hte hown') e.symm
 refine⟨h1,⟨v',h1.set v',hPB,hMB,Ob (M:=λk=>k=B) hown' ((Chg.refl (λk=>k=B) w1).setCell (p:=⟨B,0,none⟩) (λ_=>rfl) v') (λk e x=>hbv' (by rw[e,x])),λk e=>?_,hn⟩,?_⟩
 . rcases hb with hb|hb
   . exact hvb k (hb▸e)
   . rw[hb]at e
     simp only[dT,Ci]at e
     exact⟨λx=>by have:=hP k x;omega,λx=>by have:=hM k x;omega⟩
 . refine Chg.setCell ?_ (λ_=>hPB) _
   exact((Chg.refl _ W).alloc tmp).trans (hc.mono λk _ e=>(hvb k e).1)
def oU (B:Nat)(t:TypeId)(v:Value)(M Pr:Nat->Prop)(W:World):Prop:=Boxed W B t v/\¬Pr B/\¬M B
end
section
inductive Own where
|shared|tight|row (g c:Nat)
 deriving DecidableEq
inductive D where
|s (v:Value)
|sl (o:Own)(es:List (List D))
|ar (g off n cap:Nat)
|agg (cs:List D)
|tup (vs:List D)
|ptr (b off:Nat)
|ip (cs:List D)
|fn (f:Fn)(first caps:List D)
def D.un:D:=.s undef
def GI:Value->Bool
|.agg _=>false
|_=>true
def D.leaf:D->Bool
|.s v=>v.oneCell'
|.agg _=>false
|.tup _=>false
|_=>true
def D.cells:D->List D
|.agg cs=>cs
|d=>[d]
def D.sh:D->D
|.sl _ es=>.sl .shared es
|d=>d
def Xv (O:Nat->Nat->Prop)(w:World)(b off:Nat)(u:Value):Prop :=
 b<w.heap.size/\¬O b off/\w.cell? ⟨b,off,none⟩=some u
def iy (a:Option Addr)(n cap:Nat):Own->Prop
|.shared=>True
|.tight=>cap=n
|.row g c=>a=some ⟨g,0,none⟩/\cap=c
inductive Rep (O:Nat->Nat->Prop)(w:World):Value->D->Prop where
|s (v:Value) (h:GI v=true):Rep O w v (.s v)
|sl (o:Own) (es:List (List D)) (a:Option Addr) (cap:Nat) (us:List Value) (sz:Nat)
  (h1:es.length<=cap) (h2:cap<=maxLen) (h3:a=none->cap=0) (hsz:0<sz) (he:∀e∈es,e.length=sz)
  (hl:us.length=es.flatten.length) (hleaf:∀d∈es.flatten,d.leaf=true)
  (hc:∀(i:Nat) (h:i<us.length),∃b off,a=some ⟨b,off,none⟩/\Xv O w b (off+i) us[i])
  (hr:∀(i:Nat) (h:i<us.length) (h':i<es.flatten.length),Rep O w us[i] es.flatten[i])
  (ho:iy a es.length cap o):Rep O w (.slice a es.length cap) (.sl o es)
|ar (g off n cap:Nat) (h1:n<=cap) (h2:cap<=maxLen):Rep O w (.slice (some ⟨g,off,none⟩) n cap) (.ar g off n cap)
|agg (us:List Value) (cs:List D) (hl:us.length=cs.length) (hr:∀(i:Nat) (h:i<us.length) (h':i<cs.length),Rep O w us[i] cs[i]):Rep O w (.agg us.toArray) (.agg cs)
|tup (us:List Value) (cs:List D) (hl:us.length=cs.length) (hr:∀(i:Nat) (h:i<us.length) (h':i<cs.length),Rep O w us[i] cs[i]):Rep O w (.tuple us.toArray) (.tup cs)
|ptr (b off:Nat):Rep O w (.pointer (some ⟨b,off,none⟩)) (.ptr b off)
|ip (b off:Nat) (us:List Value) (cs:List D) (hl:us.length=cs.length) (hleaf:∀d∈cs,d.leaf=true) (hc:∀(i:Nat) (h:i<us.length),Xv O w b (off+i) us[i])
  (hr:∀(i:Nat) (h:i<us.length) (h':i<cs.length),Rep O w us[i] cs[i]):Rep O w (.pointer (some ⟨b,off,none⟩)) (.ip cs)
|fn (f:Fn) (us1 us2:List Value) (cs1 cs2:List D) (hl1:us1.length=cs1.length) (hl2:us2.length=cs2.length)
  (hr1:∀(i:Nat) (h:i<us1.length) (h':i<cs1.length),Rep O w us1[i] cs1[i]) (hr2:∀(i:Nat) (h:i<us2.length) (h':i<cs2.length),Rep O w us2[i] cs2[i]) :
  Rep O w (.func f us1.toArray us2.toArray) (.fn f cs1 cs2)
def RepL (O:Nat->Nat->Prop)(w:World)(us:List Value)(cs:List D):Prop :=
 us.length=cs.length/\∀(i:Nat) (h:i<us.length) (h':i<cs.length),Rep O w us[i] cs[i]
section
variable {O:Nat->Nat->Prop} {w:World}
theorem RepL.nil:RepL O w [] []:=⟨rfl,λi h=>absurd h (BL _)⟩
theorem RepL.cons{u:Value}{us:List Value}{c:D}{cs:List D}(h:Rep O w u c)(t:RepL O w us cs):RepL O w (u::us) (c::cs):=by
 refine⟨by simp[t.1],λi h1 h2=>?_⟩
 cases i with
|zero=>exact h
|succ i=>exact t.2 i (by simpa using h1) (by simpa using h2)
theorem RepL.inv_nil{us:List Value}(h:RepL O w us []):us=[]:=Ay h.1
theorem RepL.inv_cons{us:List Value}{c:D}{cs:List D}(h:RepL O w us (c::cs)):∃u t,us=u::t/\Rep O w u c/\RepL O w t cs:=by
 cases us with
|nil=>have:=h.1;simp at this
|cons u t =>
  refine⟨u,t,rfl,h.2 0 (by simp) (by simp),?_,λi h1 h2=>?_⟩
  . have:=h.1;simpa using this
  . exact h.2 (i+1) (by simpa using h1) (by simpa using h2)
theorem RepL.append{us vs:List Value}{cs ds:List D}(h:RepL O w us cs)(k:RepL O w vs ds):RepL O w (us++vs) (cs++ds):=by
 induction us generalizing cs with
|nil=>obtain rfl:cs=[]:=Ay h.1.symm;simpa using k
|cons u us ih =>
  cases cs with
  | nil=>have:=h.1;simp at this
  | cons c cs =>
   obtain⟨u',t',e,h1,h2⟩:=h.inv_cons
   cases e
   exact RepL.cons h1 (ih h2)
theorem RepL.take{us:List Value}{cs:List D}(h:RepL O w us cs)(n:Nat):RepL O w (us.take n) (cs.take n):=by
 refine⟨by simp[h.1],λi h1 h2=>?_⟩
 rw[FI,FI]
 exact h.2 i (by simp at h1;omega) (by simp at h2;omega)
theorem RepL.drop{us:List Value}{cs:List D}(h:RepL O w us cs)(n:Nat):RepL O w (us.drop n) (cs.drop n):=by
 refine⟨by simp[h.1],λi h1 h2=>?_⟩
 rw[EG,EG]
 exact h.2 (n+i) (by simp at h1;omega) (by simp at h2;omega)
theorem RepL.set{us:List Value}{cs:List D}(h:RepL O w us cs){u:Value}{c:D}(hu:Rep O w u c)(n:Nat):RepL O w (us.set n u) (cs.set n c):=by
 refine⟨by simp[h.1],λi h1 h2=>?_⟩
 rw[List.getElem_set,List.getElem_set]
 split
 . exact hu
 . exact h.2 i (by simpa using h1) (by simpa using h2)
theorem RepL.get?{us:List Value}{cs:List D}(h:RepL O w us cs){i:Nat}{c:D}(hc:cs[i]?=some c):∃u,us[i]?=some u/\Rep O w u c:=by
 obtain⟨h1,rfl⟩:=Af.1 hc
 have h2:i<us.length:=by rw[h.1];exact h1
 exact⟨us[i],Al h2,h.2 i h2 h1⟩
theorem RepL.map{α:Type}{l:List α}{f:α->Value}{g:α->D}(h:∀x∈l,Rep O w (f x) (g x)):RepL O w (l.map f) (l.map g) :=
 ⟨by simp,λ_ _ _=>by rw[Dy,Dy];exact h _ (Hu _)⟩
theorem Rep.leafOne{u:Value}{c:D}(h:Rep O w u c)(hl:c.leaf=true):u.oneCell'=true:=by
 cases h<;>first|rfl|exact hl|(simp[D.leaf]at hl)
theorem RepL.leafOne{us:List Value}{cs:List D}(h:RepL O w us cs)(hl:∀d∈cs,d.leaf=true):∀u∈us,u.oneCell'=true:=by
 intro u hu
 obtain⟨i,hi,rfl⟩:=Df hu
 have h2:i<cs.length:=by rw[<-h.1];exact hi
 exact(h.2 i hi h2).leafOne (hl _ (Hu h2))
theorem Rep.share{v:Value}{o:Own}{es:List (List D)}(h:Rep O w v (.sl o es)):Rep O w v (.sl .shared es):=by
 cases h with
|sl _ _ a cap us sz h1 h2 h3 hsz he hl hleaf hc hr ho=>exact .sl _ _ _ _ us sz h1 h2 h3 hsz he hl hleaf hc hr trivial
theorem Rep.sh{v:Value}{d:D}(h:Rep O w v d):Rep O w v d.sh:=by
 cases d<;>first|exact h|exact h.share
theorem D.leaf_sh(d:D):d.sh.leaf=d.leaf:=by cases d<;>rfl
theorem RepL.sh{us:List Value}{cs:List D}(h:RepL O w us cs):RepL O w us (cs.map D.sh) :=
 ⟨by simp[h.1],λi h1 h2=>by rw[Dy];exact(h.2 i h1 (by simpa using h2)).sh⟩
inductive Res where
|box (b:Nat)(ty:TypeId)(cs:List D)
|room (o:Own)(ty:TypeId)(sz n:Nat)
|raw (b:Nat)(o:Obj)
|know (f:Nat->Value)(e:Nat->D)
abbrev St:=List Res
def Res.blk:Res->Option Nat
|.box b _ _=>some b
|.room (.row g _) _ _ _=>some g
|.room _ _ _ _=>none
|.raw b _=>some b
|.know _ _=>none
def Res.from:Res->Nat
|.room _ _ sz n=>n*sz
|_=>0
def Res.owns (r:Res)(b off:Nat):Prop:=r.blk=some b/\r.from<=off
def Res.ok (O:Nat->Nat->Prop)(w:World):Res->Prop
|.box b ty cs=>(∃us,w.heap[b]?=some (.cells us ty (0,0))/\RepL O w us.toList cs)/\∀d∈cs,d.leaf=true
|.room (.row g c) ty sz n=>∃cur,w.heap[g]?=some (.cells cur ty (0,0))/\cur.size=c*sz/\n<=c
|.room _ _ _ _=>True
|.raw b o=>w.heap[b]?=some o
|.know f e=>∀t,Rep O w (f t) (e t)
def OwnS (st:St)(b off:Nat):Prop:=∃r∈st,r.owns b off
def Apart (r r':Res):Prop:=∀b,r.blk=some b->r'.blk≠some b
def Holds (st:St)(w:World):Prop:=st.Pairwise Apart/\∀r∈st,r.ok (OwnS st) w
structure Ext (O:Nat->Nat->Prop)(w:World)(O':Nat->Nat->Prop)(w':World):Prop where
 dr:w.drawn<=w'.drawn
 os:w'.os=w.os
 tape:w'.tape=w.tape
 output:w'.output=w.output
 size:w.heap.size<=w'.heap.size
 own:∀b off,b<w.heap.size->O' b off->O b off
 block:∀b,b<w.heap.size->(∀off,¬O b off)->w'.heap[b]?=w.heap[b]?
 part:∀b c E fr,w.heap[b]?=some (.cells c E fr)->∃c' fr',w'.heap[b]?=some (.cells c' E fr')/\c'.size=c.size/\∀off,¬O b off->c'[off]?=c[off]?
theorem Rep.cells{v:Value}{d:D}(h:Rep O w v d):RepL O w v.cells.toList d.cells:=by
 cases h with
|agg us cs hl hr=>exact⟨hl,hr⟩
|s _ h=>cases v<;>first|exact RepL.cons (.s _ h) .nil|(simp[GI]at h)
|sl=>rename_i h1 h2 h3 h4 h5 h6 h7 h8 h9 h10;exact RepL.cons (.sl _ _ _ _ _ _ h1 h2 h3 h4 h5 h6 h7 h8 h9 h10) .nil
|ar g off n cap h1 h2=>exact RepL.cons (.ar _ _ _ _ h1 h2) .nil
|tup us cs hl hr=>exact RepL.cons (.tup _ _ hl hr) .nil
|ptr b off=>exact RepL.cons (.ptr _ _) .nil
|ip b off us cs h1 h2 h3 h4=>exact RepL.cons (.ip _ _ _ _ h1 h2 h3 h4) .nil
|fn f us1 us2 cs1 cs2 h1 h2 h3 h4=>exact RepL.cons (.fn _ _ _ _ _ h1 h2 h3 h4) .nil
end
section
variable {O O' O'':Nat->Nat->Prop} {w w' w'':World}
theorem Ext.refl(O:Nat->Nat->Prop)(w:World):Ext O w O w:=⟨Ap _,rfl,rfl,rfl,Ap _,λ_ _ _ h=>h,λ_ _ _=>rfl,λ_ c _ fr h=>⟨c,fr,h,rfl,λ_ _=>rfl⟩⟩
theorem Ext.trans(h:Ext O w O' w')(k:Ext O' w' O'' w''):Ext O w O'' w'':=by
 refine⟨Cp h.dr k.dr,k.os.trans h.os,k.tape.trans h.tape,k.output.trans h.output,Cp h.size k.size,λb off hb ho=>h.own b off hb (k.own b off (IZ hb h.size) ho),λb hb hn=>?_,λb c E fr hc=>?_⟩
 . exact(k.block b (IZ hb h.size) λoff ho=>hn off (h.own b off hb ho)).trans (h.block b hb hn)
 . have hb:=(AE.1 hc).1
   obtain⟨c',fr',h1,h2,h3⟩:=h.part b c E fr hc
   obtain⟨c'',fr'',k1,k2,k3⟩:=k.part b c' E fr' h1
   exact⟨c'',fr'',k1,k2.trans h2,λoff ho=>(k3 off λx=>ho (h.own b off hb x)).trans (h3 off ho)⟩
theorem Ext.less(hO:∀b off,O' b off->O b off)(h:Ext O w O w'):Ext O w O' w' :=
 ⟨h.dr,h.os,h.tape,h.output,h.size,λb off _ ho=>hO b off ho,h.block,h.part⟩
theorem Ext.calm(h:Ext O w O' w'){b off:Nat}{u:Value}(hc:Xv O w b off u):Xv O' w' b off u:=by
 obtain⟨h1,h2,h3⟩:=hc
 refine⟨IZ h1 h.size,λx=>h2 (h.own b off h1 x),?_⟩
 unfold World.cell? at h3 |-
 dsimp only at h3 |-
 cases hb:w.heap[b]? with
|none=>rw[hb] at h3;cases h3
|some o =>
  cases o<;>(rw[hb]at h3;try(cases h3;done))
  rename_i c E fr
  obtain⟨c',fr',k1,k2,k3⟩:=h.part b c E fr hb
  rw[k1]
  simp only[Option.isSome_none,BN,if_false]at h3 |-
  rw[k3 off h2];exact h3
theorem Rep.ext(h:Ext O w O' w'){v:Value}{d:D}(hr:Rep O w v d):Rep O' w' v d:=by
 induction hr with
|s v hv=>exact .s v hv
|sl o es a cap us sz h1 h2 h3 hsz he hl hleaf hc hr ho ih =>
  refine .sl o es a cap us sz h1 h2 h3 hsz he hl hleaf (λi hi=>?_) ih ho
  obtain⟨b,off,e,hcalm⟩:=hc i hi
  exact⟨b,off,e,h.calm hcalm⟩
|ar g off n cap h1 h2=>exact .ar _ _ _ _ h1 h2
|agg us cs hl hr ih=>exact .agg us cs hl ih
|tup us cs hl hr ih=>exact .tup us cs hl ih
|ptr b off=>exact .ptr b off
|ip b off us cs hl hleaf hc hr ih=>exact .ip b off us cs hl hleaf (λi hi=>h.calm (hc i hi)) ih
|fn f us1 us2 cs1 cs2 hl1 hl2 hr1 hr2 ih1 ih2=>exact .fn f us1 us2 cs1 cs2 hl1 hl2 ih1 ih2
theorem RepL.ext(h:Ext O w O' w'){us:List Value}{cs:List D}(hr:RepL O w us cs):RepL O' w' us cs:=⟨hr.1,λi h1 h2=>(hr.2 i h1 h2).ext h⟩
theorem OwnS.nil(b off:Nat):¬OwnS [] b off:=λ⟨_,h,_⟩=>by cases h
theorem OwnS.cons_iff{r:Res}{st:St}{b off:Nat}:OwnS (r::st) b off↔r.owns b off\/OwnS st b off:=by
 unfold OwnS;simp
theorem Res.ok.lt{r:Res}{b:Nat}(hr:r.ok O w)(hb:r.blk=some b):b<w.heap.size:=by
 cases r with
|box b ty cs=>cases hb;obtain⟨⟨us,h1,h2⟩,h3⟩:=hr;exact(AE.1 h1).1
|room o ty sz n =>
  cases o<;>first|(cases hb;done)|skip
  cases hb;obtain⟨cur,h1,h2⟩:=hr;exact(AE.1 h1).1
|raw b o=>cases hb;exact(AE.1 hr).1
|know f e=>cases hb
theorem Holds.lt{st:St}(h:Holds st w){b off:Nat}(ho:OwnS st b off):b<w.heap.size:=by
 obtain⟨r,hr,hb,_⟩:=ho
 exact(h.2 r hr).lt hb
theorem Res.ok.ext(h:Ext O w O' w'){r:Res}(hr:r.ok O w)(hb:∀b,r.blk=some b->w'.heap[b]?=w.heap[b]?):r.ok O' w':=by
 cases r with
|box b ty cs=>obtain⟨⟨us,h1,h2⟩,h3⟩:=hr;exact⟨⟨us,(hb b rfl).trans h1,h2.ext h⟩,h3⟩
|room o ty sz n =>
  cases o<;>first|exact trivial|skip
  obtain⟨cur,h1,h2⟩:=hr;exact⟨cur,(hb _ rfl).trans h1,h2⟩
|raw b o=>exact(hb b rfl).trans hr
|know f e=>exactλt=>(hr t).ext h
theorem Apart.symm{r r':Res}(h:Apart r r'):Apart r' r:=λb h1 h2=>h b h2 h1
theorem OwnS.perm{st st':St}(h:st.Perm st'):OwnS st=OwnS st':=by
 funext b off;apply propext;unfold OwnS
 exact⟨λ⟨r,h1,h2⟩=>⟨r,h.mem_iff.1 h1,h2⟩,λ⟨r,h1,h2⟩=>⟨r,h.mem_iff.2 h1,h2⟩⟩
theorem Holds.perm{st st':St}(hp:st.Perm st')(h:Holds st w):Holds st' w :=
 ⟨(hp.pairwise_iff λh=>h.symm).1 h.1,λr hr=>by rw[<-OwnS.perm hp];exact h.2 r (hp.mem_iff.2 hr)⟩
theorem Ext.alloc(O:Nat->Nat->Prop)(w:World)(o:Obj):Ext O w O (w.alloc o) :=
 ⟨Ap _,rfl,rfl,rfl,by simp,λ_ _ _ h=>h,λb hb _=>Fk _ _ _ hb,λb c E fr h=>⟨c,fr,(Fk _ _ _ (AE.1 h).1).trans h,rfl,λ_ _=>rfl⟩⟩
theorem Ext.drewN(O:Nat->Nat->Prop)(w:World)(n:Nat):Ext O w O (w.drewN n) :=
 ⟨Fj _ _,rfl,rfl,rfl,Ap _,λ_ _ _ h=>h,λ_ _ _=>rfl,λ_ c _ fr h=>⟨c,fr,h,rfl,λ_ _=>rfl⟩⟩
theorem Holds.keep{st:St}(h:Holds st w)(he:Ext (OwnS st) w (OwnS st) w')(hb:∀b,b<w.heap.size->w'.heap[b]?=w.heap[b]?):Holds st w' :=
 ⟨h.1,λr hr=>(h.2 r hr).ext he λb hbl=>hb b ((h.2 r hr).lt hbl)⟩
theorem Holds.alloc{st:St}(h:Holds st w)(o:Obj):Holds st (w.alloc o):=h.keep (Ext.alloc _ _ o) λ_ hb=>Fk _ _ _ hb
theorem Holds.drewN{st:St}(h:Holds st w)(n:Nat):Holds st (w.drewN n):=h.keep (Ext.drewN _ _ n) λ_ _=>rfl
theorem Ext.drop{st st':St}(hs:∀r∈st',r∈st)(w:World):Ext (OwnS st) w (OwnS st') w :=
 (Ext.refl _ w).less λ_ _ ⟨r,h1,h2⟩=>⟨r,hs r h1,h2⟩
theorem Holds.sub{st st':St}(h:Holds st w)(hs:st'.Sublist st):Holds st' w :=
 ⟨h.1.sublist hs,λr hr=>(h.2 r (hs.subset hr)).ext (Ext.drop (λ_ h=>hs.subset h) w) λ_ _=>rfl⟩
theorem Holds.put{r r':Res}{st:St}(h:Holds (r::st) w)(he:Ext (OwnS (r::st)) w (OwnS (r'::st)) w')(hb:∀x∈st,∀b,x.blk=some b->w'.heap[b]?=w.heap[b]?)(hr:r'.ok (OwnS (r'::st)) w')(ha:∀x∈st,Apart r' x):Holds (r'::st) w':=by
 refine⟨AX.2 ⟨ha,(AX.1 h.1).2⟩,λx hx=>?_⟩
 rcases Ax.1 hx with rfl|hx
 . exact hr
 . exact(h.2 x (Ae _ hx)).ext he (hb x hx)
theorem Holds.push{r:Res}{st:St}(h:Holds st w)(he:Ext (OwnS st) w (OwnS (r::st)) w')(hb:∀x∈st,∀b,x.blk=some b->w'.heap[b]?=w.heap[b]?)(hr:r.ok (OwnS (r::st)) w')(ha:∀x∈st,Apart r x):Holds (r::st) w':=by
 refine⟨AX.2 ⟨ha,h.1⟩,λx hx=>?_⟩
 rcases Ax.1 hx with rfl|hx
 . exact hr
 . exact(h.2 x hx).ext he (hb x hx)
theorem Io{st : St}(h:Holds st w)(r:Res)(hbl:∀b,r.blk=some b->b=w.heap.size)(o:Obj)(hr:Ext (OwnS st) w (OwnS (r::st)) (w.alloc o)->r.ok (OwnS (r::st)) (w.alloc o)) :
 Holds (r::st) (w.alloc o)/\Ext (OwnS st) w (OwnS (r::st)) (w.alloc o):=by
 have he:Ext (OwnS st) w (OwnS (r::st)) (w.alloc o) :=
  ⟨Ap _,rfl,rfl,rfl,by simp,λb off hb ho=>(OwnS.cons_iff.1 ho).elim (λx=>by have:=hbl b x.1;omega) id,λb hb _=>Fk _ _ _ hb,λb c E fr h=>⟨c,fr,(Fk _ _ _ (AE.1 h).1).trans h,rfl,λ_ _=>rfl⟩⟩
 refine⟨h.push he (λx hx b hb=>Fk _ _ _ ((h.2 x hx).lt hb)) (hr he) λx hx b hb hb'=>?_,he⟩
 have:=(h.2 x hx).lt hb'
 have:=hbl b hb
 omega
theorem MF{st : St}(h:Holds st w)(ty:TypeId){us:List Value}{cs:List D}(hr:RepL (OwnS st) w us cs)(hl:∀d∈cs,d.leaf=true) :
 Holds (.box w.heap.size ty cs::st) (w.alloc (.cells us.toArray ty))/\Ext (OwnS st) w (OwnS (.box w.heap.size ty cs::st)) (w.alloc (.cells us.toArray ty)) :=
 Io h _ (λb e=>by cases e;rfl) _ λhe=>⟨⟨us.toArray,heap_alloc_new w _,hr.ext he⟩,hl⟩
theorem UW{st:St}(h:Holds st w)(us:List Value)(ty:TypeId)(fr:Nat×Nat){i:Nat}(hi:i<us.length):Xv (OwnS st) (w.alloc (.cells us.toArray ty fr)) w.heap.size i us[i]:=by
 refine⟨by simp,λho=>by have:=h.lt ho;omega,?_⟩
 rw[cell_of_row _ w.heap.size i us.toArray ty fr (heap_alloc_new w _)]
 simp[hi]
end
end
section
class CE (P:Program)(f:FuncId):Prop where
 go:∀args w,(callFunc f args).run P w=.ok (.enter f args) w
inductive TK where
|other|bool|int (k:IntKind)|string
|slice (e:TypeId)(sz bytes:Nat)(z:List Value)
|struct (fs:List (Nat×Nat×Bool))
|array (n sz:Nat)(agg:Bool)
|pointer
structure TI where
 agg:Bool
 sz:Nat
 zero:List Value
 k:TK
def jv:TypeDesc->Bool
|.struct _|.array _ _=>true
|_=>false
def QC (P:Program)(t:TypeId):Bool:=((P.underlying t).map jv).getD false
def szT (P:Program)(t:TypeId):Nat:=((P.info? t).map (·.size)).getD 0
def RH (P:Program)(t:TypeId):TK :=
 match P.underlying t with
|some .bool=>.bool
|some (.int k)=>.int k
|some .string=>.string
|some (.pointer _)=>.pointer
|some (.slice e)=>match P.info? e with
  | some i=>match i.zero with
   | some z=>if z.cells.size=i.size/\0<i.size then .slice e i.size i.bytes z.cells.toList else .other
   | none=>.other
  | none=>.other
|some (.struct fs)=>if fs.all (λf=>(P.info? f.type).isSome && (P.underlying f.type).isSome)then .struct (fs.toList.map λf=>(f.offset,szT P f.type,QC P f.type))else .other
|some (.array n e)=>if (P.info? e).isSome/\(P.underlying e).isSome then .array n (szT P e) (QC P e)else .other
|_=>.other
def Bt (P:Program)(t:TypeId):Option TI :=
 match P.info? t,P.underlying t with
|some i,some d=>match i.zero with
  | some z=>if z.cells.size=i.size then some ⟨jv d,i.size,z.cells.toList,RH P t⟩else none
  | none=>none
|_,_=>none
section
variable {P:Program} {t:TypeId} {ti:TI}
theorem JN(h:Bt P t=some ti):∃i d z,P.info? t=some i/\P.underlying t=some d/\i.zero=some z/\z.cells.size=i.size/\ti=⟨jv d,i.size,z.cells.toList,RH P t⟩:=by
 unfold Bt at h
 cases hi:P.info? t with
|none=>simp[hi] at h
|some i =>
  cases hd:P.underlying t with
  | none=>simp[hi,hd]at h
  | some d =>
   simp only[hi,hd]at h
   cases hz:i.zero with
   | none=>simp[hz]at h
   | some z =>
    simp only[hz]at h
    split at h
    . rename_i hs
      exact⟨i,d,z,rfl,rfl,hz,hs,(Cl h).symm⟩
    . cases h
theorem YX(h:Bt P t=some ti)(w:World):(isAgg t).run P w=.ok ti.agg w:=by
 obtain⟨i,d,z,h1,h2,h3,h4,rfl⟩:=JN h
 simp only[isAgg,AG,run_underlying h2,Am]
 cases d<;>rfl
theorem OT(h:Bt P t=some ti)(w:World):(sizeOf t).run P w=.ok ti.sz w:=by
 obtain⟨i,d,z,h1,h2,h3,h4,rfl⟩:=JN h
 simp[sizeOf,typeInfo,h1]
theorem LH(h:Bt P t=some ti)(w:World):∃z,z.cells.toList=ti.zero/\(zeroValue t).run P w=.ok z w:=by
 obtain⟨i,d,z,h1,h2,h3,h4,rfl⟩:=JN h
 exact⟨z,rfl,by simp[zeroValue,typeInfo,h1,h3]⟩
theorem JS(h:Bt P t=some ti):∃d,P.underlying t=some d/\(∀w,(underlying t).run P w=.ok d w)/\ti.k=RH P t:=by
 obtain⟨i,d,z,h1,h2,h3,h4,rfl⟩:=JN h
 exact⟨d,h2,run_underlying h2,rfl⟩
end
section
variable {P:Program} {t:TypeId} {ti:TI} {O:Nat->Nat->Prop} {w:World}
def Je (ti:TI)(cs:List D):Option D :=
 if ti.agg then(if ti.sz<=cs.length then some (.agg (cs.take ti.sz))else none)else cs.head?
theorem KA(h : Bt P t=some ti){b off:Nat}{us:List Value}{cs:List D}{d:D}(hc:∀(i:Nat) (hi:i<us.length),w.cell? ⟨b,off+i,none⟩=some us[i])(hr:RepL O w us cs)(hd:Je ti cs=some d) :
 ∃v,(Instr.loadAt t (.pointer (some ⟨b,off,none⟩))).run P w=.ok v w/\Rep O w v d:=by
 unfold Je at hd
 simp only[Instr.loadAt,Instr.sureAddr,loadVar,AG,AN,Am,YX h]
 by_cases ha:ti.agg=true
 . rw[if_pos ha]at hd
   split at hd
   . rename_i hs
     cases hd
     have hl:(loadCells ⟨b,off,none⟩ (us.take ti.sz).length).run P w=.ok (us.take ti.sz).toArray w:=run_loadCells_list w _ _ λj v hv=>by
      rw[ED]
      rw[Dq]at hv
      split at hv
      . obtain⟨h1,rfl⟩:=Af.1 hv
        exact hc j h1
      . cases hv
     have hlen:(us.take ti.sz).length=ti.sz:=by rw[AQ,hr.1];omega
     rw[hlen]at hl
     simp only[ha,if_true,AG,OT h,Am,hl,AN]
     exact⟨_,rfl,.agg _ _ (hr.take _).1 (hr.take _).2⟩
   . cases hd
 . rw[if_neg ha]at hd
   cases cs with
   | nil=>cases hd
   | cons c cs =>
    cases hd
    obtain⟨u,ut,rfl,h1,h2⟩:=hr.inv_cons
    have:=hc 0 (by simp)
    simp only[Ed,List.getElem_cons_zero]at this
    simp only[ha,BN,if_false]
    refine⟨u,?_,h1⟩
    simp[load,Sem.run,this]
end
inductive ResAt (r r':Res):St->St->Prop
|here {st:St}:ResAt r r' (r::st) (r'::st)
|there {x:Res} {st st':St} (h:ResAt r r' st st'):ResAt r r' (x::st) (x::st')
theorem ResAt.perm{r r':Res}{st st':St}(h:ResAt r r' st st'):∃s0,st.Perm (r::s0)/\st'.Perm (r'::s0):=by
 induction h with
|here=>exact⟨_,.refl _,.refl _⟩
|there h ih =>
  obtain⟨s0,h1,h2⟩:=ih
  exact⟨_,(h1.cons _).trans (.swap _ _ _),(h2.cons _).trans (.swap _ _ _)⟩
theorem Ext.perm{st st' s s':St}{w w':World}(h1:st.Perm s)(h2:st'.Perm s')(h:Ext (OwnS s) w (OwnS s') w'):Ext (OwnS st) w (OwnS st') w':=by
 rw[OwnS.perm h1,OwnS.perm h2];exact h
section
variable {P:Program} {t:TypeId} {ti:TI} {st st':St} {w:World}
theorem XG{b:Nat}{ty:TypeId}{cs cs':List D}{us us':Array Value}(h:Holds (.box b ty cs::st) w)(hb:w.heap[b]?=some (.cells us ty (0,0)))(hs:us'.size=us.size)
 (hr:RepL (OwnS (.box b ty cs::st)) w us'.toList cs')(hl:∀d∈cs',d.leaf=true) :
 Holds (.box b ty cs'::st) (w.setRow b us')/\Ext (OwnS (.box b ty cs::st)) w (OwnS (.box b ty cs'::st)) (w.setRow b us'):=by
 have hown:∀k off,OwnS (.box b ty cs'::st) k off->OwnS (.box b ty cs::st) k off:=λk off ho=>by
  rw[OwnS.cons_iff]at ho |-
  exact ho
 have he:Ext (OwnS (.box b ty cs::st)) w (OwnS (.box b ty cs'::st)) (w.setRow b us'):=by
  refine⟨Ap _,rfl,rfl,rfl,by simp,λk off _ ho=>hown k off ho,λk hk hn=>?_,λk c E fr hk=>?_⟩
  . refine setRow_other w b k us' λe=>?_
    subst e
    exact hn 0 (OwnS.cons_iff.2 (.inl ⟨rfl,Ap _⟩))
  . by_cases e:k=b
    . subst e
      rw[hb]at hk
      cases hk
      exact⟨us',_,setRow_heap w k us us' ty (0,0) hb,hs,λoff hn=>absurd (OwnS.cons_iff.2 (.inl ⟨rfl,Ao _⟩)) hn⟩
    . exact⟨c,fr,(setRow_other w b k us' e).trans hk,rfl,λ_ _=>rfl⟩
 refine⟨h.put he (λx hx k hk=>setRow_other w b k us' λe=>?_) ⟨⟨us',setRow_heap w b us us' ty (0,0) hb,hr.ext he⟩,hl⟩ (λx hx=>?_),he⟩
 . subst e
   exact(AX.1 h.1).1 x hx k rfl hk
 . exact(AX.1 h.1).1 x hx
def DJ (cs:List D)(off:Nat)(ds:List D):List D:=cs.take off++ds++cs.drop (off+ds.length)
theorem YW{b off:Nat}{ty:TypeId}{cs:List D}{v:Value}{d:D}(h:Holds st w)(hat:ResAt (.box b ty cs) (.box b ty (DJ cs off d.cells)) st st')(ht:Bt P t=some ti)
 (hv:Rep (OwnS st) w v d)(hsz:d.cells.length=ti.sz)(hl:d.cells.all D.leaf=true)(hoff:off+d.cells.length<=cs.length) :
 ∃w',(Instr.storeAt t (.pointer (some ⟨b,off,none⟩)) v).run P w=.ok () w'/\Holds st' w'/\Ext (OwnS st) w (OwnS st') w':=by
 obtain⟨s0,p1,p2⟩:=hat.perm
 have h':=h.perm p1
 obtain⟨⟨us,hb,hr⟩,hlc⟩:=h'.2 _ (Ag ..)
 have hc:=hv.cells
 have hcl:=hc.1
 have hul:=hr.1
 have hlv:∀x∈d.cells,x.leaf=true:=AU.1 hl
 have h1:∀u∈v.cells.toList,u.oneCell'=true:=hc.leafOne hlv
 have hlen:v.cells.toList.length=ti.sz:=by omega
 have hrun:=run_storeCells_at (P:=P) b off ty v.cells.toList 0 us w hb (by simp only[Ed];rw[hcl,<-AR,hul];exact hoff) h1
 rw[Ed]at hrun
 rw[OwnS.perm p1]at hc
 have hrep:RepL (OwnS (.box b ty cs::s0)) w (us.toList.take off++v.cells.toList++us.toList.drop (off+v.cells.toList.length)) (DJ cs off d.cells):=by
  unfold DJ
  rw[hcl]
  exact((hr.take off).append hc).append (hr.drop _)
 have hset:=XG (us':=(us.toList.take off++v.cells.toList++us.toList.drop (off+v.cells.toList.length)).toArray) h' hb (by
  simp only[Nj,Ad,AQ,AO,AR]at *
  omega) hrep (λx hx=>by
   unfold DJ at hx
   rw[Bc,Bc]at hx
   rcases hx with(hx|hx)|hx
   . exact hlc x (Kt hx)
   . exact hlv x hx
   . exact hlc x (FH hx))
 refine⟨_,?_,hset.1.perm p2.symm,hset.2.perm p1 p2⟩
 have hne:¬(v.cells.size≠ti.sz):=by rw[<-AR];simp[hlen]
 simp only[Instr.storeAt,Instr.sureAddr,storeVar,AG,AN,Am,OT ht,if_neg hne,hrun]
theorem Jc{b off:Nat}{ty:TypeId}{cs:List D}{d:D}(h:Holds st w)(hm:Res.box b ty cs∈st)(ht:Bt P t=some ti)(hd:Je ti (cs.drop off)=some d) :
 ∃v,(Instr.loadAt t (.pointer (some ⟨b,off,none⟩))).run P w=.ok v w/\Rep (OwnS st) w v d:=by
 obtain⟨⟨us,hb,hr⟩,hlc⟩:=h.2 _ hm
 refine KA ht (us:=us.toList.drop off) (λi hi=>?_) (hr.drop off) hd
 rw[cell_of_row w b (off+i) us ty (0,0) hb]
 rw[EG]
 simp at hi
 rw[Be (by omega)]
 simp
end
theorem DQ{sz:Nat}:∀{es:List (List D)},(∀e∈es,e.length=sz)->es.flatten.length=es.length*sz
|[],_=>by simp
|e::es,h=>by rw[AL,Ad,h e (Ag ..),DQ λx hx=>h x (Ae _ hx),An,Cr,Dw]
section
variable {P:Program} {st st':St} {w:World}
theorem Ep{O:Nat->Nat->Prop}{v:Value}{o:Own}{es:List (List D)}(h:Rep O w v (.sl o es)):∃a cap us sz,v=.slice a es.length cap/\es.length<=cap/\cap<=maxLen/\0<sz/\(∀e∈es,e.length=sz)/\us.length=es.length*sz/\RepL O w us es.flatten/\(∀d∈es.flatten,d.leaf=true) /\
 (a=none->cap=0)/\(∀(i:Nat) (hi:i<us.length),∃b off,a=some ⟨b,off,none⟩/\Xv O w b (off+i) us[i])/\iy a es.length cap o:=by
 cases h with
|sl _ _ a cap us sz h1 h2 h3 hsz he hl hleaf hc hr ho =>
  exact⟨a,cap,us,sz,rfl,h1,h2,hsz,he,hl.trans (DQ he),⟨hl,hr⟩,hleaf,h3,hc,ho⟩
theorem Kh(T ty e:TypeId)(i:TypeInfo)(ht:P.underlying T=some (.slice e))(hi:P.info? e=some i)(a:Option Addr)(n cap:Nat)(hn:n<=cap)(x:Option Addr)(c:Nat) :
 (Builtin.append_ #[T,T] ty #[.slice a n cap,.slice x 0 c]).run P w=.ok (.slice a n cap) w:=by
 cases x<;>cases a<;>simp[Builtin.append_,run_underlying ht,sizeOf,typeInfo,hi,Builtin.lenOf,Builtin.firstCells,loadCells,loadCellsFrom,hn,storeCells]
theorem Hr{O:Nat->Nat->Prop}{a:Option Addr}{us:List Value}(hc:∀(i:Nat) (hi:i<us.length),∃b off,a=some ⟨b,off,none⟩/\Xv O w b (off+i) us[i]){ad:Addr}(ha:a=some ad):∀j u,us[j]?=some u->w.cell? (ad.add j)=some u:=by
 intro j u hu
 obtain⟨h1,rfl⟩:=Af.1 hu
 obtain⟨b,off,e,_,_,h3⟩:=hc j h1
 rw[ha]at e
 cases e
 rw[ED];exact h3
theorem RT{o:Own}{e:TypeId}{sz n cap:Nat}{s0:St}(h:Holds (.room o e sz n::s0) w){us:List Value}{fs:List (List D)}(hr:RepL (OwnS (.room o e sz n::s0)) w us fs.flatten)(hleaf:∀d∈fs.flatten,d.leaf=true)
 (hsz:0<sz)(hes:∀x∈fs,x.length=sz)(hul:us.length=fs.length*sz)(hcap:fs.length<=cap)(hmax:cap<=maxLen)(rest:List Value)(hrest:rest.length=(cap - fs.length)*sz) :
 let w':=w.drew.alloc (.cells (us++rest).toArray e)
 Rep (OwnS (.room (.row w.heap.size cap) e sz fs.length::s0)) w' (.slice (some ⟨w.heap.size,0,none⟩) fs.length cap) (.sl (.row w.heap.size cap) fs)/\Holds (.room (.row w.heap.size cap) e sz fs.length::s0) w'/\Ext (OwnS (.room o e sz n::s0)) w (OwnS (.room (.row w.heap.size cap) e sz fs.length::s0)) w':=by
 intro w'
 have hown:∀b off,b<w.heap.size->OwnS (.room (.row w.heap.size cap) e sz fs.length::s0) b off->OwnS (.room o e sz n::s0) b off:=λb off hb ho=>by
  rcases OwnS.cons_iff.1 ho with⟨h1,_⟩|h1
  . cases h1;omega
  . exact OwnS.cons_iff.2 (.inr h1)
 have hnew:w'.heap[w.heap.size]?=some (.cells (us++rest).toArray e):=heap_alloc_new w.drew _
 have hold:∀b,b<w.heap.size->w'.heap[b]?=w.heap[b]?:=λb hb=>Fk w.drew _ _ hb
 have he:Ext (OwnS (.room o e sz n::s0)) w (OwnS (.room (.row w.heap.size cap) e sz fs.length::s0)) w' :=
  ⟨Nat.le_succ _,rfl,rfl,rfl,by show w.heap.size<=(w.drew.alloc _).heap.size;rw[dT];exact Nat.le_succ _,hown,λb hb _=>hold b hb,λb c E fr hb=>⟨c,fr,(hold b (AE.1 hb).1).trans hb,rfl,λ_ _=>rfl⟩⟩
 have hsize:((us++rest).toArray:Array Value).size=cap*sz:=by
  simp only[Nj,Ad,hul,hrest]
  rw[<-FF];congr 1;omega
 have hnot:∀i,i<us.length->¬OwnS (.room (.row w.heap.size cap) e sz fs.length::s0) w.heap.size i:=λi hi ho=>by
  rcases OwnS.cons_iff.1 ho with⟨_,h1⟩|h1
  . simp only[Res.from]at h1;omega
  . have:=(h.sub (AK _ _)).lt h1;omega
 refine⟨?_,h.put he (λx hx b hb=>hold b ((h.2 x (Ae _ hx)).lt hb)) ⟨_,hnew,hsize,hcap⟩ (λx hx b hb hb'=>?_),he⟩
 . refine .sl _ fs _ cap us sz (by omega) hmax (λe=>by cases e) hsz hes hr.1 hleaf (λi hi=>⟨w.heap.size,0,rfl,?_⟩) (hr.ext he).2 ⟨rfl,rfl⟩
   rw[Bo]
   refine⟨(AE.1 hnew).1,hnot i hi,?_⟩
   rw[cell_of_row w' w.heap.size i _ e (0,0) hnew]
   simp[Ba hi]
 . cases hb
   have:=(h.2 x (Ae _ hx)).lt hb'
   omega
theorem Wk(T ty:TypeId){ti:TI}{e:TypeId}{sz bytes:Nat}{z:List Value}(ht:Bt P T=some ti)(hk:ti.k=.slice e sz bytes z){o ox:Own}{es ys:List (List D)}{v x:Value}{s0:St}
 (h:Holds (.room o e sz es.length::s0) w)(hv:Rep (OwnS (.room o e sz es.length::s0)) w v (.sl o es))(hx:Rep (OwnS (.room o e sz es.length::s0)) w x (.sl ox ys))(ho:o≠.shared)
 (hes:∀a∈es,a.length=sz)(hys:∀a∈ys,a.length=sz)(hb:(es.length+ys.length)*bytes<=140737488355328)(hm:es.length+ys.length<=140737488355328) :
 ∃v' w' o',o'≠.shared/\(Builtin.append_ #[T,T] ty #[v,x]).run P w=.ok v' w'/\Rep (OwnS (.room o' e sz (es++ys).length::s0)) w' v' (.sl o' (es++ys))/\Holds (.room o' e sz (es++ys).length::s0) w'/\Ext (OwnS (.room o e sz es.length::s0)) w (OwnS (.room o' e sz (es++ys).length::s0)) w':=by
 obtain⟨d,hd, -,hkk⟩:=JS ht
 rw[hk]at hkk
 obtain⟨i,hi,zv,hz,hzs,hsz0,hd',rfl,rfl,rfl⟩:∃i,P.info? e=some i/\∃zv,i.zero=some zv/\zv.cells.size=i.size/\0<i.size/\d=.slice e/\i.size=sz/\i.bytes=bytes/\zv.cells.toList=z:=by
  unfold RH at hkk
  rw[hd]at hkk
  cases d<;>simp only at hkk<;>try(cases hkk;done)
  . rename_i e'
    cases hi:P.info? e' with
    | none=>simp[hi]at hkk
    | some i =>
     simp only[hi]at hkk
     cases hz:i.zero with
     | none=>simp[hz]at hkk
     | some zv =>
      simp only[hz]at hkk
      split at hkk
      . rename_i hq
        cases hkk
        exact⟨i,hi,zv,hz,hq.1,hq.2,rfl,rfl,rfl,rfl⟩
      . cases hkk
  . split at hkk<;>cases hkk
  . split at hkk<;>cases hkk
 subst hd'
 obtain⟨a,cap,us,sz1,rfl,c1,c2,c3,c4,c5,c6,c7,c8,c9,c10⟩:=Ep hv
 obtain⟨xa,xcap,xus,xsz,rfl,x1,x2,x3,x4,x5,x6,x7,x8,x9, -⟩:=Ep hx
 have hul:us.length=es.length*i.size:=by
  rw[c6.1];exact DQ hes
 have hxl:xus.length=ys.length*i.size:=by
  rw[x6.1];exact DQ hys
 by_cases hy:ys=[]
 . subst hy
   refine⟨_,w,o,ho,Kh T ty e i hd hi a es.length cap c1 xa xcap,?_,?_,?_⟩
   . simpa using hv
   . simpa using h
   . simpa using Ext.refl _ _
 . have hpos:0<ys.length:=Cm.2 hy
   obtain⟨xad,rfl⟩:∃ad,xa=some ad:=by
    cases xa with
    | none=>have:=x8 rfl;omega
    | some ad=>exact⟨ad,rfl⟩
   have hnews:=Hr x9 rfl
   have hfl:RepL (OwnS (.room o e i.size es.length::s0)) w (us++xus) (es++ys).flatten:=by rw[CW];exact c6.append x6
   have hfleaf:∀d∈(es++ys).flatten,d.leaf=true:=λd hd=>by
    rw[CW,Bc]at hd
    exact hd.elim (c7 d) (x7 d)
   have hfes:∀x∈es++ys,x.length=i.size:=λx hx=>(Bc.1 hx).elim (hes x) (hys x)
   have hful:(us++xus).length=(es.length+ys.length)*i.size:=by rw[Ad,hul,hxl,FF]
   have hmaxl:es.length+ys.length<=maxLen:=by unfold maxLen;omega
   have grow:∀old,(hlt:old<es.length+ys.length)->(hrun:(Builtin.append_ #[T,T] ty #[.slice a es.length cap,.slice (some xad) ys.length xcap]).run P w =
    .ok (.slice (some ⟨w.heap.size,0,none⟩) (es.length+ys.length) (grownCap w (es.length+ys.length) old e)) (w.drew.alloc (.cells (us.toArray++xus.toArray++Builtin.zeroCells zv.cells (grownCap w (es.length+ys.length) old e - (es.length+ys.length))) e))) ->
    ∃v' w' o',o'≠.shared/\(Builtin.append_ #[T,T] ty #[.slice a es.length cap,.slice (some xad) ys.length xcap]).run P w=.ok v' w'/\Rep (OwnS (.room o' e i.size (es++ys).length::s0)) w' v' (.sl o' (es++ys))/\Holds (.room o' e i.size (es++ys).length::s0) w' /\
     Ext (OwnS (.room o e i.size es.length::s0)) w (OwnS (.room o' e i.size (es++ys).length::s0)) w':=by
    intro old hlt hrun
    have hge:=grownCap_ge w (es.length+ys.length) old e
    have hcm:=grownCap_le_maxLen w (es.length+ys.length) old e hmaxl
    generalize grownCap w (es.length+ys.length) old e=nc at *
    have hl2:(es++ys).length=es.length+ys.length:=Ad
    have hg:=RT (cap:=nc) h hfl hfleaf hsz0 hfes (by rw[hl2];exact hful) (by rw[hl2];exact hge) hcm (Builtin.zeroCells zv.cells (nc - (es.length+ys.length))).toList (by rw[AR,size_zeroCells,hzs,hl2])
    have heq:(us.toArray++xus.toArray++Builtin.zeroCells zv.cells (nc - (es.length+ys.length)))=((us++xus)++(Builtin.zeroCells zv.cells (nc - (es.length+ys.length))).toList).toArray:=by simp
    rw[heq]at hrun
    rw[<-hl2]at hrun
    exact⟨_,_,.row w.heap.size nc,by simp,by rw[hrun,hl2],hg.1,hg.2.1,hg.2.2⟩
   cases o with
   | shared=>exact absurd rfl ho
   | tight =>
    have hcap:cap=es.length:=c10
    subst hcap
    cases a with
    | none =>
     have h0:=c8 rfl
     have hes0:es=[]:=Ay h0
     have hus0:us=[]:=Ay (by rw[hul,h0,Fe])
     refine grow 0 (by omega) ?_
     rw[h0,hus0]
     have:=run_append_nil (P:=P) w T ty e i zv hd hi hz xad ys.length xcap xus hxl hnews hpos (by omega) (by have:ys.length*i.bytes<=(es.length+ys.length)*i.bytes:=CM _ (by omega);omega)
     simp only[Bo]
     rw[this]
     simp
    | some ad =>
     have hold:=Hr c9 rfl
     exact grow es.length (by omega) (run_append_grow (P:=P) w T ty e i zv hd hi hz ad es.length es.length us hul hold xad ys.length xcap xus hxl hnews (by omega) (by omega) (growslice_fits (by omega) hb))
   | row g c =>
    obtain⟨ha,rfl⟩:a=some ⟨g,0,none⟩/\cap=c:=c10
    subst ha
    have hold:=Hr c9 rfl
    by_cases hroom:es.length+ys.length<=cap
    . obtain⟨cur,hg,hcs, -⟩:=h.2 _ (Ag ..)
      have hfit:es.length*i.size+xus.length<=cur.size:=by rw[hxl,hcs,<-FF];exact CM _ hroom
      have hrun:=run_append_room (P:=P) w T ty e i hd hi g es.length cap cur hg xad ys.length xcap xus hxl hnews (x6.leafOne x7) hroom hfit
      have htake:cur.toList.take (es.length*i.size)=us:=by
       apply Cx
       intro j
       rw[Dq]
       split
       . rename_i hj
         have hj':j<us.length:=by omega
         have hcj:=hold j us[j] (Al hj')
         rw[ED,Bo,cell_of_row w g j cur e (0,0) hg]at hcj
         rw[Al hj',<-hcj]
         simp
       . rw[Bz (by omega)]
      rw[htake]at hrun
      generalize hnew:(us++xus++cur.toList.drop (es.length*i.size+xus.length))=L at *
      have hLs:L.length=cur.size:=by
       rw[<-hnew]
       simp only[Ad,AO,AR,hul]
       omega
      have hgn:(w.setRow g L.toArray).heap[g]?=some (.cells L.toArray e (0,0)):=setRow_heap w g cur L.toArray e (0,0) hg
      have hne:∀x∈s0,x.blk≠some g:=λx hx=>(AX.1 h.1).1 x hx g rfl
      have hown:∀b off,OwnS (.room (.row g cap) e i.size (es.length+ys.length)::s0) b off->OwnS (.room (.row g cap) e i.size es.length::s0) b off:=λb off ho=>by
       rcases OwnS.cons_iff.1 ho with⟨h1,h2⟩|h1
       . refine OwnS.cons_iff.2 (.inl ⟨h1,?_⟩)
         simp only[Res.from]at h2 |-
         exact Cp (CM _ (by omega)) h2
       . exact OwnS.cons_iff.2 (.inr h1)
      have he:Ext (OwnS (.room (.row g cap) e i.size es.length::s0)) w (OwnS (.room (.row g cap) e i.size (es.length+ys.length)::s0)) (w.setRow g L.toArray):=by
       refine⟨Ap _,rfl,rfl,rfl,by simp,λb off _ ho=>hown b off ho,λb hb hn=>setRow_other w g b _ λeb=>?_,λb cc E fr hb=>?_⟩
       . subst eb
         exact hn (es.length*i.size) (OwnS.cons_iff.2 (.inl ⟨rfl,Ap _⟩))
       . by_cases eb:b=g
         . subst eb
           rw[hg]at hb
           cases hb
           refine⟨_,_,hgn,by simpa using hLs,λoff hn=>?_⟩
           have hoff:off<us.length:=by
            rcases Dv off us.length with h1|h1
            . exact h1
            . exact absurd (OwnS.cons_iff.2 (.inl ⟨rfl,by simp only[Res.from];omega⟩)) hn
           have hcj:=hold off us[off] (Al hoff)
           rw[ED,Bo,cell_of_row w b off cur e (0,0) hg]at hcj
           rw[hcj,<-hnew]
           simp[Ba hoff,hoff]
         . exact⟨cc,fr,(setRow_other w g b _ eb).trans hb,rfl,λ_ _=>rfl⟩
      refine⟨_,_,.row g cap,by simp,hrun,?_,?_,?_⟩
      . rw[Ad]
        have hl2:(es++ys).length=es.length+ys.length:=Ad
        rw[<-hl2]
        refine .sl _ (es++ys) _ cap (us++xus) i.size (by omega) c2 (λe=>by cases e) hsz0 hfes hfl.1 hfleaf (λj hj=>⟨g,0,rfl,?_⟩) (by rw[hl2];exact(hfl.ext he).2) ⟨rfl,rfl⟩
        rw[Bo]
        refine⟨(AE.1 hgn).1,λho=>?_,?_⟩
        . rw[hl2]at ho
          rcases OwnS.cons_iff.1 ho with⟨_,h2⟩|⟨r,hr,hrb,_⟩
          . simp only[Res.from]at h2;omega
          . exact hne r hr hrb
        . rw[cell_of_row _ g j L.toArray e (0,0) hgn,<-hnew,Eo,Ba hj,Al hj]
      . rw[Ad]
        exact h.put he (λx hx b hb=>setRow_other w g b _ λeb=>hne x hx (eb▸hb)) ⟨_,hgn,by simpa [hLs]using hcs,hroom⟩ λx hx b hb=>by cases hb;exact hne x hx
      . rw[Ad];exact he
    . exact grow cap (by omega) (run_append_grow (P:=P) w T ty e i zv hd hi hz ⟨g,0,none⟩ es.length cap us hul hold xad ys.length xcap xus hxl hnews (by omega) (by omega) (growslice_fits (by omega) hb))
end
end
end Go.Proofs.YtoeidpmjifjplaaGreat
namespace Go.Proofs.YtoeidpmjifjplaaGreat
theorem gEx{α:Type}{l:List α}{i:Nat}(h:i<l.length):∃a,l[i]?=some a:=⟨_,Al h⟩
theorem hMp{α β:Type}(f:α->β)(l:List α):RowKit.Hid (∀(i:Nat) (a:α),l[i]?=some a->(l.map f)[i]?=some (f a)):=λi a h=>by rw[Aq,h];rfl
theorem q_o{p:Prop}(h:p:=by omega):p:=h
theorem q_n{p:Prop}(h:p:=by simp only[An,Cd];omega):p:=h
theorem q_a{p:Prop}(h:p:=by(repeat(first|exact At2.here|apply At2.there));first|done|fail):p:=h
theorem Vb{α:Type}{a:α}{l:List α}:a∈a::l:=.head _
theorem Va{α:Type}{a b:α}{l:List α}(h:a∈l):a∈b::l:=.tail _ h
theorem Hn{r r':Res}{st:St}:ResAt r r' (r::st) (r'::st):=.here
theorem Hm{r r' x:Res}{st st':St}(h:ResAt r r' st st'):ResAt r r' (x::st) (x::st'):=.there h
theorem oH{p:Prop}[h:Decidable p](k:decide p=true):p:=of_decide_eq_true k
theorem oI{p:Prop}[h:Decidable p](k:decide p=false):¬p:=of_decide_eq_false k
theorem oE{α:Type}[BEq α][LawfulBEq α]{a b:α}(h:(a == b)=true):a=b:=eq_of_beq h
theorem ov{α:Type}[BEq α][LawfulBEq α]{a b:α}(h:(a == b)=false):a≠b:=ne_of_beq_false h
end Go.Proofs.YtoeidpmjifjplaaGreat
