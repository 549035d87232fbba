/- Texts put together. No statement is proved here. -/
import Derived.Test.YtoeidpmjifjplaaGreatZ7
set_option linter.all false
set_option maxRecDepth 10000
set_option maxHeartbeats 8000000
namespace Go.Proofs.YtoeidpmjifjplaaGreat
open Go.RowKit
section
attribute [local push_cast] Ad Ae Ao V.cells_mk V.cells_len Nat.mul_one Int.sub_zero List.map_nil beq_self_eq_true bne_self_eq_false List.head?_cons Bool.not_true Bool.not_false Nat.zero_add List.append_assoc Fl Fm
attribute [-instance] Aq Av Am
def AB (K:List Fc):List D:=(K.map Fc.cells).flatten
def JI (f:Fc):MK:=.i f.id
def Di (K:List Fc):List D:=K.map fun f=>D.i f.id
theorem AQ(K:List Fc):(AB K).length=K.length*5:=by
 unfold AB
 induction K with
|nil=>rfl
|cons f K ih=>rw[List.map_cons,List.flatten_cons,List.length_append,ih,List.length_cons,Fc.cells_len,Nat.succ_mul,Nat.add_comm]
theorem Jp(K:List Fc)(f:Fc):AB (K++[f])=AB K++[f.cells].flatten:=by
 unfold AB
 rw[List.map_append,List.flatten_append]
 rfl
theorem CA(K:List Fc):(K.map JI).map MK.d=Di K:=by rw[List.map_map];rfl
theorem UU(K:List Fc)(f:Fc):Di (K++[f])=Di K++[[D.i f.id]].flatten:=by
 unfold Di
 rw[List.map_append]
 rfl
def MemP.resF (K:List Fc)(M:MemP):St:=M.res 43 3 (AB K) (K.map JI)
def MemP.okF (K:List Fc)(M:MemP):Prop:=M.ok 5 (AB K) (K.map JI)
theorem Ri(o : Nat)(ty:TypeId)(pre post:List D)(M:MemP)(K:List Fc)(f:Fc)(hok:M.okF K)(hk:f.id∉K.map Fc.id)(hn:K.length≤1000000)(st:St) :
 TrF Tryz.prog 65 [.ptr o pre.length,.i f.id,.agg f.cells] (.box o ty (pre++(M.cells K.length++post))::(M.resF K++st)) fun d st'=>∃M':MemP,M'.okF (K++[f])∧d=.tup []∧(Res.box o ty (pre++(M'.cells (K.length+1)++post))::(M'.resF (K++[f])++st)).Perm st':=by
 have hW:=Gz pre post
 generalize hpl:pre.length=off at *
 obtain⟨hd0,hd1,hd2,hd3,ht0,ht1,ht2,hl1,hl2,hl3⟩:=hW
 rw[show D.agg f.cells=.agg [.i f.id,.i f.time,.i f.tmpl,.i f.ver,.sl .shared (f.s.map V.cells)] from rfl]
 have hfc:f.cells=[.i f.id,.i f.time,.i f.tmpl,.i f.ver,.sl .shared (f.s.map V.cells)]:=rfl
 generalize f.s.map V.cells=VS at *
 replace hfc:=Lib.hid hfc
 cases M with
|no =>
  obtain⟨hK, -⟩:=hok
  obtain rfl:K=[]:=List.map_eq_nil_iff.1 hK
  have hm:=MRep.put (k:=.i f.id) MRep.nil 0 List.not_mem_nil
  clear hK
  unfold MemP.resF
  dsimp only[MemP.cells,MemP.res,List.length_nil,List.nil_append,List.cons_append]
  refine Qin [] Tryz.func65 Tryz.results65 Tryz.ntmps65 ?_
  repeat' (first|refine QV ?_|((with_reducible refine KQ (kt:=3) ?_ ?_ ?_);(focus kernel_rfl);(focus exact q_v))|((with_reducible refine Jl ?_);intro bm)|((with_reducible apply(CH (id:=4) [(o,pre++D.mp bm::D.sl .tight []::D.sl .tight []::post)] [0,2,3,4,5,6,7,8,9,10,11,12,13,14,15,16,17] 18 [1,19,20,21]));(iterate 3 (focus kernel_rfl));(iterate 2 (focus(simp only[CD,List.cons_append,List.nil_append,List.getElem?_cons_zero,List.getElem?_cons_succ];exact rfl)));(focus exact q_k);intro hne;(try simp only[nes,ne1,and_assoc] at hne);repeat(have hq:=hne.1;replace hne:=hne.2))|((with_reducible refine Exists.intro [] ?_);(with_reducible refine And.intro ?_ ?_);(focus exact q_k))|((with_reducible refine And.intro ?_ ?_);(focus exact q_k))|((with_reducible refine Cm (id:=3) [(o,pre++D.mp bm::D.sl .tight []::D.sl .tight []::post)] ?_ ?_ ?_ ?_ ?_);(iterate 3 (focus kernel_rfl));(focus((repeat(first|exact An|refine Aw q_m ?_));done)))|((with_reducible refine And.intro ?_ ?_);(focus exact q_k))|((with_reducible apply(UJ (b:=bm) (kn:=f.id) (l:=[]) (c:=0) (n:=0) (kt:=3)));(focus exact q_v);(focus exact q_v);(focus exact q_v);(focus(repeat(first|exact Dl|apply Dk)));(focus kernel_rfl);(focus exact Dg (by kernel_rfl) (fun e he=>by cases he)))|with_reducible refine Em ?_|with_reducible refine Gs ?_|((with_reducible apply Eo);(focus exact q_n);(focus exact AF rfl);(focus exact q_n);(focus exact q_n);intro g' c' z' hc' hl')|refine QY ?_|(refine QB ?_;intro b)|(with_reducible refine QZ ?_<;>(try constructor)<;>intro hb<;>try intro hb1)|fail)
  rename_i gl cl zl hcl hll
  refine Ab (by simp) q_y (List.Sublist.refl _) (LE.refl _) ⟨.at_ bm (BF [] 0 (.i f.id) 0).1 (BF [] 0 (.i f.id) 0).2 gl cl zl g' c' z',⟨hm,?_,?_,?_⟩,rfl,?_⟩
  · rw[←hfc.out] at hll;exact hll
  · simpa [MK.d,JI] using hl'
  · exact AQ [f]
  · rw[←hfc.out]
    dsimp only[MemP.cells,MemP.res,List.cons_append,List.nil_append,List.map_cons,List.map_nil,MK.d,JI,AB,List.flatten_cons,List.flatten_nil]
    rw[List.append_nil]
    (repeat(first|exact List.Perm.refl _|refine AM (by repeat(first|exact Ba|apply AG)) ?_))
|at_ bm ml cm gl cl zl gk ck zk =>
  obtain⟨hM,hzl,hzk, -⟩:=hok
  have hkn:MK.i f.id∉K.map JI:=fun h=>by
   obtain⟨x,hx,e⟩:=List.mem_map.1 h
   exact hk (MK.i.inj e▸List.mem_map_of_mem hx)
  have hm:=hM.put cm hkn
  rw[List.length_map] at hm
  have hle:Hid (∀e∈ml,∃n,e.k=.i n):=fun e he=>by
   obtain⟨x,hx,e1⟩:=List.mem_map.1 (hM.keys e he)
   exact⟨x.id,e1.symm⟩
  have hrl:=AQ K
  have hri:(Di K).length=K.length*1:=by unfold Di;rw[List.length_map,Nat.mul_one]
  have hra:=Jp K f
  rw[hfc.out] at hra
  replace hra:=Lib.hid hra
  have hrb:=Lib.hid (UU K f)
  unfold MemP.resF
  dsimp only[MemP.cells,MemP.res,List.length_nil,List.nil_append,List.cons_append]
  rw[CA] at hzk ⊢
  replace hm:=Lib.hid hm
  have hzk1:(Di K++zk).length=ck*1:=by rw[Nat.mul_one];exact hzk
  clear hM hkn hzk hk
  have hKn:K.length+1≤1000001:=by omega
  obtain⟨RP,hRP⟩:∃RP,RP=AB K:=⟨_,rfl⟩
  obtain⟨RI,hRI⟩:∃RI,RI=Di K:=⟨_,rfl⟩
  rw[←hRP] at hzl hrl hra ⊢
  rw[←hRI] at hzk1 hri hrb ⊢
  obtain⟨n,hn2⟩:∃n,n=K.length:=⟨_,rfl⟩
  rw[←hn2] at hrl hri hm hKn ⊢
  rw[←hn2] at hn
  clear hRP hRI
  replace hn2:=Lib.hid hn2
  refine Qin [] Tryz.func65 Tryz.results65 Tryz.ntmps65 ?_
  repeat' (first|refine QV ?_|((with_reducible refine KO (b:=bm) (kt:=3) ?_ ?_ ?_);(focus kernel_rfl);(focus exact q_v))|((with_reducible apply(CH (id:=4) [(o,pre++D.mp bm::D.ar gl 0 n cl::D.ar gk 0 n ck::post)] [0,2,3,4,5,6,7,8,9,10,11,12,13,14,15,16,17] 18 [1,19,20,21]));(iterate 3 (focus kernel_rfl));(iterate 2 (focus(simp only[CD,List.cons_append,List.nil_append,List.getElem?_cons_zero,List.getElem?_cons_succ];exact rfl)));(focus exact q_k);intro hne;(try simp only[nes,ne1,and_assoc] at hne);repeat(have hq:=hne.1;replace hne:=hne.2))|((with_reducible refine Exists.intro [] ?_);(with_reducible refine And.intro ?_ ?_);(focus exact q_k))|((with_reducible refine And.intro ?_ ?_);(focus exact q_k))|((with_reducible refine Cm (id:=3) [(o,pre++D.mp bm::D.ar gl 0 n cl::D.ar gk 0 n ck::post)] ?_ ?_ ?_ ?_ ?_);(iterate 3 (focus kernel_rfl));(focus((repeat(first|exact An|refine Aw q_m ?_));done)))|((with_reducible refine And.intro ?_ ?_);(focus exact q_k))|((with_reducible apply(UJ (b:=bm) (kn:=f.id) (l:=ml) (c:=cm) (n:=n) (kt:=3)));(focus exact q_v);(focus exact q_v);(focus exact q_v);(focus(repeat(first|exact Dl|apply Dk)));(focus kernel_rfl);(focus exact Dg (by kernel_rfl) hle.out))|with_reducible refine DK ?_|with_reducible refine FD ?_|((with_reducible apply(DN hrl hzl));(focus(intro g' cs';repeat(first|exact Dl|apply Dk)));(focus exact AF rfl);(iterate 2 (focus exact q_n));intro g1 c1 z1 hc1 hl1)|((with_reducible apply(DN hri hzk1));(focus(intro g' cs';repeat(first|exact Dl|apply Dk)));(focus exact AF rfl);(iterate 2 (focus exact q_n));intro g2 c2 z2 hc2 hl2)|refine QY ?_|(refine QB ?_;intro b)|(with_reducible refine QZ ?_<;>(try constructor)<;>intro hb<;>try intro hb1)|fail)
  refine Ab (by simp) q_y (List.Sublist.refl _) (LE.refl _) ⟨.at_ bm (BF ml cm (.i f.id) n).1 (BF ml cm (.i f.id) n).2 g1 c1 z1 g2 c2 z2,⟨?_,?_,?_,?_⟩,rfl,?_⟩
  · rw[List.map_append];exact hm.out
  · rw[hra.out];exact hl1
  · rw[CA,hrb.out,←Nat.mul_one c2];exact hl2
  · rw[AQ,List.length_map]
  · rw[CA,hra.out,hrb.out]
    dsimp only[MemP.cells,MemP.res,List.cons_append,List.nil_append]
    (repeat(first|exact List.Perm.refl _|refine AM (by repeat(first|exact Ba|apply AG)) ?_))
end
section
attribute [local push_cast] Ad Ae Ao V.cells_mk V.cells_len Nat.mul_one Int.sub_zero List.map_nil beq_self_eq_true bne_self_eq_false List.head?_cons Bool.not_true Bool.not_false Nat.zero_add List.append_assoc Fl Fm
attribute [-instance] Aq Av Am
theorem GW{α:Type}{K:List α}{i n:Nat}{z:α}(hn:K.length=n+1)(hi:i<n+1)(hz:K[n]?=some z):K.set i z=Ax K i z++[z]:=by
 have h:(K.set i z).drop n=[z]:=by
  have hl:(K.set i z).length=n+1:=by rw[List.length_set,hn]
  have hg:(K.set i z)[n]?=some z:=by
   rw[List.getElem?_set]
   by_cases e:i=n
   · rw[if_pos e,if_pos q_o]
   · rw[if_neg e];exact hz
  rw[V.drop_cons hg,List.drop_of_length_le q_o]
 unfold Ax
 conv=>lhs;rw[←List.take_append_drop n (K.set i z),h]
 rw[hn,Nat.add_sub_cancel]
theorem Ew{α:Type}{K:List α}{i n:Nat}{z:α}(hn:K.length=n+1):(Ax K i z).length=n:=by
 unfold Ax
 rw[List.length_take,List.length_set,hn]
 omega
theorem Lq{l:List KE}{c:Nat}{k:MK}{x:Int}(h:(l.map KE.k).Nodup):∀e∈(BF l c k x).1,e.k=k∨∃e'∈l,e'.k=e.k:=fun e he=>by
 obtain⟨h1,h2⟩:=Ik (c:=c) (k:=k) (x:=x) h
 have h3:=BR h1 he
 rw[h2] at h3
 split at h3
 · rename_i e1;exact .inl e1
 · obtain⟨e',h4,h5, -⟩:=Gg h3
   exact .inr ⟨e',h4,h5⟩
theorem Jq{R zs:List D}{n:Nat}{d:D}(hn:R.length=n+1)(h:R[n]?=some d):List.drop n (R++zs)=d::zs:=by
 rw[List.drop_append_of_le_length q_o,V.drop_cons h,List.drop_of_length_le q_o]
 rfl
theorem FC{R zs:List D}{i:Nat}{d:D}(hi:i<R.length):List.take i (R++zs)++d::List.drop (i+1) (R++zs)=R.set i d++zs:=by
 rw[List.take_append_of_le_length q_o,List.drop_append_of_le_length q_o,List.set_eq_take_append_cons_drop,if_pos hi,List.append_assoc]
 rfl
theorem IT{R zs:List D}{i:Nat}{d:D}(h:R[i]?=some d):List.drop i (R++zs)=d::(R.drop (i+1)++zs):=by
 have:=(List.getElem?_eq_some_iff.1 h).1
 rw[List.drop_append_of_le_length q_o,V.drop_cons h]
 rfl
theorem MRep.swap_map{l:List KE}{α:Type}{K:List α}{f:α→MK}{i n:Nat}{k z:α}(c:Nat)(h:MRep l (K.map f))(hn:K.length=n+1)(hi:K[i]?=some k)(hz:K[n]?=some z):MRep (DT (BF l c (f z) i).1 (f k)) ((Ax K i z).map f):=by
 have h1:=h.drop (i:=i) (k:=f k) (z:=f z) c (by rw[List.getElem?_map,hi];rfl) (by rw[List.length_map,List.getElem?_map,hn,Nat.add_sub_cancel,hz];rfl)
 have h2:Ax (K.map f) i (f z)=(Ax K i z).map f:=by
  unfold Ax
  rw[List.length_map,List.map_take,List.map_set]
 rwa[h2] at h1
theorem Nc(o : Nat)(ty:TypeId)(pre post:List D)(M:MemP)(K:List Nat)(kb z i n:Nat)(hok:M.okT K)(hn:K.length=n+1)(hi:K[i]?=some kb)(hz:K[n]?=some z)(hnl:n≤10000000000000)(st:St)(hl:∀b∈K,LiveO o st b) :
 TrF Tryz.prog 142 [.ptr o pre.length,.ptr kb 0] (.box o ty (pre++(M.cells K.length++post))::(M.resT K++st)) fun d st'=>∃M':MemP,M'.okT (Ax K i z)∧d=.tup []∧(Res.box o ty (pre++(M'.cells n++post))::(M'.resT (Ax K i z)++st)).Perm st':=by
 have hW:=Gz pre post
 generalize hpl:pre.length=off at *
 obtain⟨hd0,hd1,hd2,hd3,ht0,ht1,ht2,hl1,hl2,hl3⟩:=hW
 have hin:i<n+1:=by have:=(List.getElem?_eq_some_iff.1 hi).1;omega
 cases M with
|no =>
  obtain⟨hK, -⟩:=hok
  obtain rfl:K=[]:=List.map_eq_nil_iff.1 hK
  cases hi
|at_ bm ml cm gl cl zl gk ck zk =>
  obtain⟨hM,hzl,hzk, -⟩:=hok
  rw[CW] at hzk
  have hlkd:lkD ml (.p kb)=.tup [.i i,.b true]:=by
   unfold lkD
   rw[hM.look (k:=.p kb) (j:=i) (by rw[List.getElem?_map,hi];rfl)]
  have hMs:=Lib.hid (MRep.swap_map (f:=MK.p) cm hM hn hi hz)
  have hlk:=Lib.hid (hl kb (List.mem_of_getElem? hi))
  have hlz:=Lib.hid (hl z (List.mem_of_getElem? hz))
  have hle:Hid (∀e∈ml,∃b,e.k=.p b∧LiveO o st b):=fun e he=>by
   obtain⟨x,hx,e1⟩:=List.mem_map.1 (hM.keys e he)
   exact⟨x,e1.symm,hl x hx⟩
  have hle2:Hid (∀e∈(BF ml cm (.p z) i).1,∃b,e.k=.p b∧LiveO o st b):=fun e he=>by
   rcases Lq hM.nd e he with e1|⟨e',h1,h2⟩
   · exact⟨z,e1,hlz.out⟩
   · rw[←h2];exact hle.out e' h1
  have hrl:(Bi K).length=n+1:=by unfold Bi;rw[List.length_map,hn]
  have hgz:(Bi K)[n]?=some (D.ptr z 0):=by unfold Bi;rw[List.getElem?_map,hz];rfl
  have hset:(Bi K).set i (D.ptr z 0)=Bi (Ax K i z)++[D.ptr z 0]:=by
   unfold Bi
   rw[show(K.map fun b=>D.ptr b 0).set i (D.ptr z 0)=(K.set i z).map fun b=>D.ptr b 0 from List.map_set.symm,GW hn hin hz,List.map_append]
   rfl
  have hgi:((Bi K).set i (D.ptr z 0))[i]?=some (D.ptr z 0):=by
   rw[List.getElem?_set_self q_o]
  have hdl:=Jq (zs:=zl) hrl hgz
  have hdk:=Jq (zs:=zk) hrl hgz
  have hsl:=FC (zs:=zl) (d:=D.ptr z 0) (show i<(Bi K).length by omega)
  have hsk:=FC (zs:=zk) (d:=D.ptr z 0) (show i<(Bi K).length by omega)
  have hdk2:=IT (zs:=zk) hgi
  have hll:(Bi K++zl).length=cl:=by rw[hzl,Nat.mul_one]
  have hcl:n+1≤cl:=by rw[List.length_append] at hll;omega
  have hck:n+1≤ck:=by rw[List.length_append] at hzk;omega
  have hfin:Hid ((Bi K).set i (D.ptr z 0)++zl=Bi (Ax K i z)++(D.ptr z 0::zl)∧(Bi K).set i (D.ptr z 0)++zk=Bi (Ax K i z)++(D.ptr z 0::zk)):=by
   rw[hset,List.append_assoc,List.append_assoc]
   exact Lib.hid ⟨rfl,rfl⟩
  have hlf:Hid ((Bi (Ax K i z)++(D.ptr z 0::zl)).length=cl∧(Bi (Ax K i z)++(D.ptr z 0::zk)).length=ck):=by
   rw[←hfin.out.1,←hfin.out.2]
   exact Lib.hid ⟨by rw[List.length_append,List.length_set,←List.length_append];exact hll,by rw[List.length_append,List.length_set,←List.length_append];exact hzk⟩
  unfold MemP.resT
  dsimp only[MemP.cells,MemP.res,List.cons_append,List.nil_append]
  rw[CW]
  clear hM hl hzl hgz hset hgi hrl
  rw[hn]
  generalize (Bi K).drop (i+1)=W1 at *
  generalize hS1:(Bi K).set i (D.ptr z 0)++zl=SL at *
  generalize hS2:(Bi K).set i (D.ptr z 0)++zk=SK at *
  generalize hR1:Bi K++zl=RL at *
  generalize hR2:Bi K++zk=RK at *
  clear hS1 hS2 hR1 hR2
  have hil:i+1≤cl:=by omega
  have hik:i+1≤ck:=by omega
  have hw1:((n:Int)+1 - 1)=n:=by omega
  replace hn:=Lib.hid hn
  replace hi:=Lib.hid hi
  replace hz:=Lib.hid hz
  refine Qin [] Tryz.func142 Tryz.results142 Tryz.ntmps142 ?_
  repeat' (first|refine QV ?_|((with_reducible apply(bO (b:=bm) (kb:=kb) (l:=ml) (c:=cm) (kt:=117)));(focus exact q_v);(focus exact q_v);(focus(repeat(first|exact Od|apply Oc)));(focus kernel_rfl);(focus exact FO (by kernel_rfl) (hlk.out.live (List.mem_cons_self ..) (fun r hr=>List.mem_cons_of_mem _ (List.mem_cons_of_mem _ (List.mem_cons_of_mem _ (List.mem_cons_of_mem _ hr))))) (fun e he=>by obtain⟨x,e1,hx⟩:=hle.out e he;exact⟨x,e1,hx.live (List.mem_cons_self ..) (fun r hr=>List.mem_cons_of_mem _ (List.mem_cons_of_mem _ (List.mem_cons_of_mem _ (List.mem_cons_of_mem _ hr))))⟩));rw[hlkd])|((with_reducible apply(CH (id:=3) [(o,pre++D.mp bm::D.ar gl 0 (n+1) cl::D.ar gk 0 (n+1) ck::post),(gl,RL),(gk,RK)] [0,1,2,3,4,5,6,7,8,10,11,12,13,14,15,16,17,18,19,20,21,22,23,24] 25 [9,26,27]));(iterate 3 (focus kernel_rfl));(iterate 2 (focus(simp only[CD,List.cons_append,List.nil_append,List.getElem?_cons_zero,List.getElem?_cons_succ];exact rfl)));(focus exact q_k);intro hne;(try simp only[nes,ne1,and_assoc] at hne);repeat(have hq:=hne.1;replace hne:=hne.2))|((with_reducible refine Exists.intro [] ?_);(with_reducible refine And.intro ?_ ?_);(focus exact q_k))|((with_reducible refine And.intro ?_ ?_);(focus exact q_k))|((with_reducible apply(Bf (id:=4) [(o,pre++D.mp bm::D.ar gl 0 (n+1) cl::D.ar gk 0 (n+1) ck::post),(gk,SK)]));(iterate 3 (focus kernel_rfl));(focus exact q_k);intro hne;(try simp only[nes,ne1,and_assoc] at hne);repeat(have hq:=hne.1;replace hne:=hne.2))|((with_reducible refine And.intro ?_ ?_);(focus exact q_k))|((with_reducible apply(UI (b:=bm) (kb:=z) (l:=ml) (c:=cm) (n:=i) (kt:=117)));(focus exact q_v);(focus exact q_v);(focus exact q_v);(focus(repeat(first|exact Dl|apply Dk)));(focus kernel_rfl);(focus exact FO (by kernel_rfl) (hlz.out.live (List.mem_cons_self ..) (fun r hr=>List.mem_cons_of_mem _ (List.mem_cons_of_mem _ (List.mem_cons_of_mem _ (List.mem_cons_of_mem _ hr))))) (fun e he=>by obtain⟨x,e1,hx⟩:=hle.out e he;exact⟨x,e1,hx.live (List.mem_cons_self ..) (fun r hr=>List.mem_cons_of_mem _ (List.mem_cons_of_mem _ (List.mem_cons_of_mem _ (List.mem_cons_of_mem _ hr))))⟩)))|((with_reducible apply(bQ (b:=bm) (kb:=kb) (l:=(BF ml cm (.p z) i).1) (c:=(BF ml cm (.p z) i).2) (kt:=117)));(focus exact q_v);(focus exact q_v);(focus(repeat(first|exact Dl|apply Dk)));(focus kernel_rfl);(focus exact FO (by kernel_rfl) (hlk.out.live (List.mem_cons_self ..) (fun r hr=>List.mem_cons_of_mem _ (List.mem_cons_of_mem _ (List.mem_cons_of_mem _ (List.mem_cons_of_mem _ hr))))) (fun e he=>by obtain⟨x,e1,hx⟩:=hle2.out e he;exact⟨x,e1,hx.live (List.mem_cons_self ..) (fun r hr=>List.mem_cons_of_mem _ (List.mem_cons_of_mem _ (List.mem_cons_of_mem _ (List.mem_cons_of_mem _ hr))))⟩)))|((with_reducible apply(CH (id:=6) [(o,pre++D.mp bm::D.ar gl 0 (n+1) cl::D.ar gk 0 (n+1) ck::post)] [0,2,3,4,5,6,7,8,9,10,11,14,15] 16 [1,12,13,17,18,19]));(iterate 3 (focus kernel_rfl));(iterate 2 (focus(simp only[CD,List.cons_append,List.nil_append,List.getElem?_cons_zero,List.getElem?_cons_succ];exact rfl)));(focus exact q_k);intro hne;(try simp only[nes,ne1,and_assoc] at hne);repeat(have hq:=hne.1;replace hne:=hne.2))|((with_reducible refine Exists.intro [] ?_);(with_reducible refine And.intro ?_ ?_);(focus exact q_k))|((with_reducible refine And.intro ?_ ?_);(focus exact q_k))|refine QY ?_|(refine QB ?_;intro b)|(with_reducible refine QZ ?_<;>(try constructor)<;>intro hb<;>try intro hb1)|fail)
  refine Ab (by simp) q_y (List.Sublist.refl _) (LE.refl _) ⟨.at_ bm (DT (BF ml cm (.p z) i).1 (.p kb)) (BF ml cm (.p z) i).2 gl cl (D.ptr z 0::zl) gk ck (D.ptr z 0::zk),⟨hMs.out,?_,?_,?_⟩,rfl,?_⟩
  · rw[Nat.mul_one];exact hlf.out.1
  · rw[CW];exact hlf.out.2
  · unfold Bi;rw[List.length_map,List.length_map,Nat.mul_one]
  · rw[CW]
    dsimp only[MemP.cells,MemP.res,List.cons_append,List.nil_append]
    rw[←hfin.out.1,←hfin.out.2]
    (repeat(first|exact List.Perm.refl _|refine AM (by repeat(first|exact Ba|apply AG)) ?_))
end
section
attribute [local push_cast] Ad Ae Ao Nat.mul_one Int.sub_zero List.map_nil beq_self_eq_true bne_self_eq_false List.head?_cons Bool.not_true Bool.not_false Nat.zero_add List.append_assoc
structure RevI {α:Type}(L:List α)(i:Nat)(R:List α):Prop where
 len:R.length=L.length
 at_:∀t,t<L.length→R[t]?=if t<i∨L.length - 1 - i<t then L[L.length - 1 - t]? else L[t]?
theorem RevI.zero{α:Type}{L:List α}:RevI L 0 L:=⟨rfl,fun t ht=>by rw[if_neg];omega⟩
theorem RevI.next{α:Type}{L R:List α}{i:Nat}(h:RevI L i R){a b:α}(hij:i<L.length - 1 - i)(ha:R[i]?=some a)(hb:R[L.length - 1 - i]?=some b):RevI L (i+1) ((R.set i b).set (L.length - 1 - i) a):=by
 refine⟨by rw[List.length_set,List.length_set,h.len],fun t ht=>?_⟩
 have h1:=h.at_ i q_o
 have h2:=h.at_ (L.length - 1 - i) q_o
 rw[if_neg q_o] at h1 h2
 have hl:=h.len
 by_cases e1:t=L.length - 1 - i
 · subst e1
   rw[List.getElem?_set_self (by rw[List.length_set];omega),if_pos q_o,←ha,h1]
   congr 1
   omega
 · rw[List.getElem?_set_ne (fun e=>e1 e.symm)]
   by_cases e2:t=i
   · subst e2
     rw[List.getElem?_set_self q_o,if_pos q_o,←hb,h2]
   · rw[List.getElem?_set_ne (fun e=>e2 e.symm),h.at_ t ht]
     congr 1
     refine propext ⟨fun h=>by omega,fun h=>by omega⟩
theorem RevI.done{α:Type}{L R:List α}{i:Nat}(h:RevI L i R)(hij:¬i<L.length - 1 - i):R=L.reverse:=by
 refine List.ext_getElem? fun t=>?_
 by_cases ht:t<L.length
 · rw[h.at_ t ht,List.getElem?_reverse ht]
   split
   · rfl
   · have:t=L.length - 1 - t:=by omega
     rw[←this]
 · rw[List.getElem?_eq_none (by rw[h.len];omega),List.getElem?_eq_none (by rw[List.length_reverse];omega)]
theorem XA(g cap:Nat)(L:List Int)(zs:List D)(hc:(L.map D.i++zs).length=cap)(hn:L.length≤1000000)(st:St):TrF Tryz.prog 143 [.ar g 0 L.length cap] (.box g 3 (L.map D.i++zs)::st) fun d st'=>d=.tup []∧st'=.box g 3 (L.reverse.map D.i++zs)::st:=by
 have hlc:L.length≤cap:=by rw[List.length_append,List.length_map] at hc;omega
 have hcz:L.length+zs.length=cap:=by rw[List.length_append,List.length_map] at hc;exact hc
 refine Qin [] Tryz.func143 Tryz.results143 Tryz.ntmps143 ?_
 repeat' (first|refine QX ?_|(refine QB ?_;intro b)|(with_reducible refine QZ ?_<;>(try constructor)<;>intro hb<;>try intro hb1)|fail)
 refine Aj (ι:=Nat) (fun i A st'=>∃(R:List Int) (z:Int),RevI L i R∧A.df=[]∧A.e 0=.ar g 0 L.length cap∧A.e 2=.i i∧A.e 3=.i z∧z+1+i=L.length∧st'=.box g 3 (R.map D.i++zs)::st) (fun i=>L.length - i) 0 ⟨L,(L.length:Int) - 1,RevI.zero,Qf,Qf,Qf,Qf,by omega,rfl⟩ ?_
 rintro i A st' ⟨R,z,hR,hdf,e0,e2,e3,hz,rfl⟩
 by_cases hlt:(i:Int)<z
 · obtain⟨j,hj⟩:∃j,j=L.length - 1 - i:=⟨_,rfl⟩
   obtain rfl:z=(j:Int):=by omega
   have hjl:j<L.length:=by omega
   have hil:i<L.length:=by omega
   have hRl:=hR.len
   have hRm:(R.map D.i).length=L.length:=by rw[List.length_map,hRl]
   obtain⟨a,ha⟩:=gEx (l:=R) (i:=i) q_o
   obtain⟨b,hb⟩:=gEx (l:=R) (i:=j) q_o
   have hRn:=Lib.hid (hR.next q_o ha (by rw[←hj];exact hb))
   have d1:=IT (R:=R.map D.i) (zs:=zs) (d:=D.i a) (by rw[List.getElem?_map,ha];rfl)
   have d2:=IT (R:=R.map D.i) (zs:=zs) (d:=D.i b) (by rw[List.getElem?_map,hb];rfl)
   have s1:=FC (R:=R.map D.i) (zs:=zs) (d:=D.i b) (i:=i) q_o
   have s2:=FC (R:=(R.map D.i).set i (D.i b)) (zs:=zs) (d:=D.i a) (i:=j) (by rw[List.length_set];omega)
   have s3:((R.map D.i).set i (D.i b)).set j (D.i a)=((R.set i b).set j a).map D.i:=by rw[List.map_set,List.map_set]
   rw[s3] at s2
   have hi1:i+1≤cap:=by omega
   have hj1:j+1≤cap:=by omega
   have hlr:(R.map D.i++zs).length=cap:=by rw[List.length_append,hRm];exact hcz
   have hlr2:((R.map D.i).set i (D.i b)++zs).length=cap:=by rw[List.length_append,List.length_set,hRm];exact hcz
   rw[←hj] at hRn
   have hj2:Hid ((j:Int)+1+i=L.length):=hz
   clear hj hz hR ha hb s3
   generalize hR2:(R.set i b).set j a=R2 at *
   generalize (R.map D.i).drop (i+1)++zs=W1 at *
   generalize (R.map D.i).drop (j+1)++zs=W2 at *
   generalize (R.map D.i).set i (D.i b)++zs=RR1 at *
   generalize hRR:R.map D.i++zs=RR at *
   repeat' (first|refine QV ?_|((with_reducible apply(CH (id:=3) [(g,RR)] [0,1,4,5,6,7,8,9,10,11,12] 13 [2,3,14,15]));(iterate 3 (focus kernel_rfl));(iterate 2 (focus(simp only[CD,List.cons_append,List.nil_append,List.getElem?_cons_zero,List.getElem?_cons_succ];exact rfl)));(focus exact q_k);intro hne;(try simp only[nes,ne1,and_assoc] at hne);repeat(have hq:=hne.1;replace hne:=hne.2))|((with_reducible refine Exists.intro [] ?_);(with_reducible refine And.intro ?_ ?_);(focus exact q_k))|((with_reducible refine And.intro ?_ ?_);(focus exact q_k))|refine QY ?_|(refine QB ?_;intro b)|(with_reducible refine QZ ?_<;>(try constructor)<;>intro hb<;>try intro hb1)|fail)
   refine⟨i+1,.box g 3 (R2.map D.i++zs)::st,q_t,⟨R2,(j:Int) - 1,hRn.out,?_,?_,?_,?_,(by have:=hj2.out;omega),rfl⟩,by omega⟩
   all_goals exact Qf
 · obtain rfl:=hR.done q_o
   clear hR hz
   generalize L.reverse.map D.i++zs=RR at *
   exact WR
end
section
attribute [local push_cast] Ad Ae Ao V.cells_mk V.cells_len Nat.mul_one Int.sub_zero List.map_nil beq_self_eq_true bne_self_eq_false List.head?_cons Bool.not_true Bool.not_false Nat.zero_add List.append_assoc Fl Fm
attribute [-instance] Aq Av Am
theorem QE{l:List Fc}{i:Nat}{x:Fc}(zs:List D)(h:l[i]?=some x):List.take 5 (List.drop (i*5) (AB l++zs))=x.cells:=by
 have h1:AB l=AB (l.take i)++(x.cells++AB (l.drop (i+1))):=by
  unfold AB
  rw[←List.flatten_cons,←List.map_cons,←List.flatten_append,←List.map_append]
  congr 2
  have:=V.drop_cons h
  rw[←this,List.take_append_drop]
 have h2:(AB (l.take i)).length=i*5:=by
  rw[AQ,List.length_take,Nat.min_eq_left (Nat.le_of_lt (List.getElem?_eq_some_iff.1 h).1)]
 rw[h1,List.append_assoc,List.append_assoc,←h2,List.drop_left]
 exact List.take_left' rfl
theorem UV{out:List Fc}{c:Nat}{u:Fc}(zs:List D)(h:c<out.length):List.take (c*5) (AB out++zs)++(u.cells++List.drop (c*5+5) (AB out++zs))=AB (out.set c u)++zs:=by
 obtain⟨z,hz⟩:=gEx h
 have hL:(out.map Fc.cells)[c]?=some z.cells:=by rw[List.getElem?_map,hz];rfl
 have hs:=DL (o:=0) (sz:=5) (ds:=u.cells) zs (out.map Fc.cells) c (fun e he=>by
  obtain⟨x, -,rfl⟩:=List.mem_map.1 he
  exact Fc.cells_len x) hL (by rw[Fc.cells_len];omega)
 have h1:Bh z.cells 0 u.cells=u.cells:=by
  unfold Bh
  rw[List.take_zero,List.nil_append,Nat.zero_add,List.drop_of_length_le (by rw[Fc.cells_len,Fc.cells_len];omega),List.append_nil]
 rw[h1,←List.map_set] at hs
 unfold Bh at hs
 rw[Nat.add_zero,Fc.cells_len,List.append_assoc] at hs
 exact hs
theorem OB(o : Nat)(ty:TypeId)(pre post:List D)(M:MemP)(K:List Fc)(f z:Fc)(i n:Nat)(hok:M.okF K)(hn:K.length=n+1)(hi:K[i]?=some f)(hz:K[n]?=some z)(hnl:n≤1000000)(st:St) :
 TrF Tryz.prog 68 [.ptr o pre.length,.i f.id] (.box o ty (pre++(M.cells K.length++post))::(M.resF K++st)) fun d st'=>∃M':MemP,M'.okF (Ax K i z)∧d=.tup []∧(Res.box o ty (pre++(M'.cells n++post))::(M'.resF (Ax K i z)++st)).Perm st':=by
 have hW:=Gz pre post
 generalize hpl:pre.length=off at *
 obtain⟨hd0,hd1,hd2,hd3,ht0,ht1,ht2,hl1,hl2,hl3⟩:=hW
 have hin:i<n+1:=by have:=(List.getElem?_eq_some_iff.1 hi).1;omega
 cases M with
|no =>
  obtain⟨hK, -⟩:=hok
  obtain rfl:K=[]:=List.map_eq_nil_iff.1 hK
  cases hi
|at_ bm ml cm gl cl zl gk ck zk =>
  obtain⟨hM,hzl,hzk, -⟩:=hok
  rw[CA] at hzk
  have hlkd:lkD ml (.i f.id)=.tup [.i i,.b true]:=by
   unfold lkD
   rw[hM.look (k:=.i f.id) (j:=i) (by rw[List.getElem?_map,hi];rfl)]
  have hMs:=Lib.hid (MRep.swap_map (f:=JI) cm hM hn hi hz)
  have hle:Hid (∀e∈ml,∃n,e.k=.i n):=fun e he=>by
   obtain⟨x,hx,e1⟩:=List.mem_map.1 (hM.keys e he)
   exact⟨x.id,e1.symm⟩
  have hle2:Hid (∀e∈(BF ml cm (.i z.id) i).1,∃n,e.k=.i n):=fun e he=>by
   rcases Lq hM.nd e he with e1|⟨e',h1,h2⟩
   · exact⟨z.id,e1⟩
   · rw[←h2];exact hle.out e' h1
  have hrl:(Di K).length=n+1:=by unfold Di;rw[List.length_map,hn]
  have hgz:(Di K)[n]?=some (D.i z.id):=by unfold Di;rw[List.getElem?_map,hz];rfl
  have hset:(Di K).set i (D.i z.id)=Di (Ax K i z)++[D.i z.id]:=by
   unfold Di
   rw[show(K.map fun f=>D.i f.id).set i (D.i z.id)=(K.set i z).map fun f=>D.i f.id from List.map_set.symm,GW hn hin hz,List.map_append]
   rfl
  have hsf:AB (K.set i z)=AB (Ax K i z)++[z.cells].flatten:=by rw[GW hn hin hz,Jp]
  have hgi:((Di K).set i (D.i z.id))[i]?=some (D.i z.id):=by
   rw[List.getElem?_set_self q_o]
  have hdl:=QE zl hz
  have hdk:=Jq (zs:=zk) hrl hgz
  have hsl:=UV (u:=z) zl (show i<K.length by omega)
  have hsk:=FC (zs:=zk) (d:=D.i z.id) (show i<(Di K).length by omega)
  have hdk2:=IT (zs:=zk) hgi
  have hll:(AB K++zl).length=cl*5:=hzl
  have hcl:n+1≤cl:=by rw[List.length_append,AQ,hn] at hll;omega
  have hck:n+1≤ck:=by rw[List.length_append] at hzk;omega
  have hfin:Hid (AB (K.set i z)++zl=AB (Ax K i z)++(z.cells++zl)∧(Di K).set i (D.i z.id)++zk=Di (Ax K i z)++(D.i z.id::zk)):=by
   rw[hset,hsf,List.append_assoc,List.append_assoc]
   exact Lib.hid ⟨by rw[List.flatten_cons,List.flatten_nil,List.append_nil],rfl⟩
  have hlf:Hid ((AB (Ax K i z)++(z.cells++zl)).length=cl*5∧(Di (Ax K i z)++(D.i z.id::zk)).length=ck):=by
   rw[←hfin.out.1,←hfin.out.2]
   exact Lib.hid ⟨by rw[List.length_append,AQ,List.length_set,←AQ,←List.length_append];exact hll,by rw[List.length_append,List.length_set,←List.length_append];exact hzk⟩
  have hdl5:n*5+5≤(AB K++zl).length:=by rw[hll];omega
  have hdi5:i*5+5≤(AB K++zl).length:=by rw[hll];omega
  have hdl6:5≤(List.drop (n*5) (AB K++zl)).length:=by rw[List.length_drop];omega
  have hdi6:5≤(List.drop (i*5) (AB K++zl)).length:=by rw[List.length_drop];omega
  unfold MemP.resF
  dsimp only[MemP.cells,MemP.res,List.cons_append,List.nil_append]
  rw[CA]
  clear hM hzl hgz hset hgi hrl hsf
  rw[hn]
  generalize (Di K).drop (i+1)=W1 at *
  rw[show z.cells=[.i z.id,.i z.time,.i z.tmpl,.i z.ver,.sl .shared (z.s.map V.cells)] from rfl] at hdl hsl hfin hlf
  simp only[List.cons_append,List.nil_append] at hsl
  generalize hS1:AB (K.set i z)++zl=SL at *
  generalize hS2:(Di K).set i (D.i z.id)++zk=SK at *
  generalize hR1:AB K++zl=RL at *
  generalize hR2:Di K++zk=RK at *
  clear hS1 hS2 hR1 hR2
  have hil:i+1≤cl:=by omega
  have hik:i+1≤ck:=by omega
  have hw1:((n:Int)+1 - 1)=n:=by omega
  replace hn:=Lib.hid hn
  replace hi:=Lib.hid hi
  replace hz:=Lib.hid hz
  refine Qin [] Tryz.func68 Tryz.results68 Tryz.ntmps68 ?_
  repeat' (first|refine QV ?_|((with_reducible apply(UL (b:=bm) (kn:=f.id) (l:=ml) (c:=cm) (kt:=3)));(focus exact q_v);(focus exact q_v);(focus(repeat(first|exact Od|apply Oc)));(focus kernel_rfl);(focus exact Dg (by kernel_rfl) hle.out);rw[hlkd])|((with_reducible apply(CH (id:=3) [(o,pre++D.mp bm::D.ar gl 0 (n+1) cl::D.ar gk 0 (n+1) ck::post),(gl,RL),(gk,RK)] [0,1,2,3,4,5,6,7,8,10,11,12,13,14,15,16,17,18,19,20,21,22,23,24] 25 [9,26,27]));(iterate 3 (focus kernel_rfl));(iterate 2 (focus(simp only[CD,List.cons_append,List.nil_append,List.getElem?_cons_zero,List.getElem?_cons_succ];exact rfl)));(focus exact q_k);intro hne;(try simp only[nes,ne1,and_assoc] at hne);repeat(have hq:=hne.1;replace hne:=hne.2))|((with_reducible refine Exists.intro [] ?_);(with_reducible refine And.intro ?_ ?_);(focus exact q_k))|((with_reducible refine And.intro ?_ ?_);(focus exact q_k))|((with_reducible apply(Bf (id:=4) [(o,pre++D.mp bm::D.ar gl 0 (n+1) cl::D.ar gk 0 (n+1) ck::post),(gk,SK)]));(iterate 3 (focus kernel_rfl));(focus exact q_k);intro hne;(try simp only[nes,ne1,and_assoc] at hne);repeat(have hq:=hne.1;replace hne:=hne.2))|((with_reducible refine And.intro ?_ ?_);(focus exact q_k))|((with_reducible apply(UJ (b:=bm) (kn:=z.id) (l:=ml) (c:=cm) (n:=i) (kt:=3)));(focus exact q_v);(focus exact q_v);(focus exact q_v);(focus(repeat(first|exact Dl|apply Dk)));(focus kernel_rfl);(focus exact Dg (by kernel_rfl) hle.out))|((with_reducible apply(bR (b:=bm) (kn:=f.id) (l:=(BF ml cm (.i z.id) i).1) (c:=(BF ml cm (.i z.id) i).2) (kt:=3)));(focus exact q_v);(focus exact q_v);(focus(repeat(first|exact Dl|apply Dk)));(focus kernel_rfl);(focus exact Dg (by kernel_rfl) hle2.out))|((with_reducible apply(CH (id:=6) [(o,pre++D.mp bm::D.ar gl 0 (n+1) cl::D.ar gk 0 (n+1) ck::post)] [0,2,3,4,5,6,7,8,9,10,11,14,15] 16 [1,12,13,17,18,19]));(iterate 3 (focus kernel_rfl));(iterate 2 (focus(simp only[CD,List.cons_append,List.nil_append,List.getElem?_cons_zero,List.getElem?_cons_succ];exact rfl)));(focus exact q_k);intro hne;(try simp only[nes,ne1,and_assoc] at hne);repeat(have hq:=hne.1;replace hne:=hne.2))|((with_reducible refine Exists.intro [] ?_);(with_reducible refine And.intro ?_ ?_);(focus exact q_k))|((with_reducible refine And.intro ?_ ?_);(focus exact q_k))|refine QY ?_|(refine QB ?_;intro b)|(with_reducible refine QZ ?_<;>(try constructor)<;>intro hb<;>try intro hb1)|fail)
  refine Ab (by simp) q_y (List.Sublist.refl _) (LE.refl _) ⟨.at_ bm (DT (BF ml cm (.i z.id) i).1 (.i f.id)) (BF ml cm (.i z.id) i).2 gl cl (z.cells++zl) gk ck (D.i z.id::zk),⟨hMs.out,hlf.out.1,?_,?_⟩,rfl,?_⟩
  · rw[CA];exact hlf.out.2
  · rw[AQ,List.length_map]
  · rw[CA]
    dsimp only[MemP.cells,MemP.res,List.cons_append,List.nil_append]
    rw[←hfin.out.2,show z.cells=[.i z.id,.i z.time,.i z.tmpl,.i z.ver,.sl .shared (z.s.map V.cells)] from rfl,←hfin.out.1]
    (repeat(first|exact List.Perm.refl _|refine AM (by repeat(first|exact Ba|apply AG)) ?_))
end
section
attribute [local push_cast] Ad Ae V.cells_mk V.cells_take V.cells_len Nat.mul_one Int.sub_zero
open V in
theorem MZ:∀(N:Nat) (v:V),v.nodes≤N→v.nodes≤1000000000→∀st,TrF Tryz.prog 84 [.agg v.cells] st fun x st'=>x=.agg v.cells∧st'=st
|0,v,h,_=>by have:=v.nodes_pos;omega
|N+1,.mk k n s l,hN,hB=>by
  intro st
  have hll:=DR l
  rw[nodes] at hN hB
  have IH:=Lib.hid fun x (hx:x∈l)=>MZ N x (by have:=Da hx;omega) (by have:=Da hx;omega)
  clear hN
  rw[V.cells_mk]
  refine YY 2 30 Tryz.func84 Tryz.ntmps84 ?_
  refine ET 30 4 0 ?_
  repeat' (first|with_reducible refine Co ?_|refine QX ?_|(refine QB ?_;intro b)|(refine QP ?_;intro o' ho')|(with_reducible refine QZ ?_<;>(try constructor)<;>intro hb<;>try intro hb1)|fail)
  rename_i b1
  revert b
  intro b2
  refine Aj (ι:=Nat) (fun i A st'=>i≤l.length∧A.df=[]∧A.e 1=.ptr b1 0∧A.e 2=.ptr b2 0∧A.e 7=.sl .shared (l.map V.cells)∧A.e 8=.i l.length∧A.e 9=.i i∧∃o',o'≠.shared∧A.e 3=.sl o' ((l.take i).map V.cells)∧∃zs,zs.length=4∧st'=.box b2 30 zs::.box b1 30 [.i k,.i n,.str s,.sl .shared (l.map V.cells)]::.room o' 30 4 ((l.take i).map V.cells).length::st) (fun i=>l.length - i) 0 ⟨Nat.zero_le _,Qf,Qf,Qf,Qf,Qf,Qf,.tight,by simp,Qf,_,rfl,rfl⟩ ?_
  rintro i A st' ⟨hi,hdf,e1,e2,e7,e8,e9,o',ho',e3,zs,hzs,rfl⟩
  by_cases hlt:i<l.length
  · obtain⟨x,hx⟩:=gEx hlt
    have ih:=IH.out x (DS hx)
    have htk:l.take (i+1)=l.take i++[x]:=by
     rw[List.take_succ,hx];rfl
    have hTi:(l.take i).length=i:=by rw[List.length_take];omega
    replace htk:=Lib.hid htk
    generalize l.take i=Ti at *
    clear IH
    have hT4:∀a∈Ti.map V.cells,a.length=4:=fun a ha=>by
     obtain⟨y, -,rfl⟩:=List.mem_map.1 ha
     exact V.cells_len y
    cases x with
    | mk k1 n1 s1 l1 =>
     rw[V.cells_mk] at ih
     replace ih:=Lib.hid ih
     repeat' (first|refine QV ?_|((with_reducible apply(Zp ho'));(focus(intro o';repeat(first|exact Dl|apply Dk)));(focus exact hT4);(focus exact AF rfl);(focus(simp only[List.length_map,List.length_cons,List.length_nil];omega));(focus(simp only[List.length_map,List.length_cons,List.length_nil];omega));intro o' ho')|refine QY ?_|(refine QB ?_;intro b)|(refine QP ?_;intro o' ho')|(with_reducible refine QZ ?_<;>(try constructor)<;>intro hb<;>try intro hb1)|fail)
     refine⟨i+1,.box b2 30 zs::.box b1 30 [.i k,.i n,.str s,.sl .shared (l.map V.cells)]::.room o' 30 4 ((l.take (i+1)).map V.cells).length::st,?_,⟨hlt,?_,?_,?_,?_,?_,?_,o',ho',?_,zs,hzs,rfl⟩,?_⟩
     · rw[htk.out];simp only[List.map_append,List.map_cons,List.map_nil,V.cells_mk];(repeat(first|exact List.Sublist.refl _|apply List.Sublist.cons))
     · exact Qf
     · exact Qf
     · exact Qf
     · exact Qf
     · exact Qf
     · exact Qf
     · rw[htk.out];simp only[List.map_append,List.map_cons,List.map_nil,V.cells_mk];exact Qf
     · omega
  · rw[List.take_of_length_le q_o] at *
    clear IH
    repeat' (first|refine QX ?_|(refine QB ?_;intro b)|(refine QP ?_;intro o' ho')|(with_reducible refine QZ ?_<;>(try constructor)<;>intro hb<;>try intro hb1)|fail)
    all_goals exact ON
end
section
attribute [local push_cast] Ad Ae V.cells_mk V.cells_take V.cells_len Nat.mul_one Int.sub_zero
def Bw (l:List V):List D:=(l.map V.cells).flatten
theorem EE(l:List V):(Bw l).length=l.length*4:=by
 unfold Bw
 rw[Bb (sz:=4) fun e he=>by
  obtain⟨x, -,rfl⟩:=List.mem_map.1 he
  exact V.cells_len x,List.length_map]
theorem Xy{l:List V}{i:Nat}{x:V}(zs:List D)(h:l[i]?=some x):List.take 4 (List.drop (i*4) (Bw l++zs))=x.cells:=by
 have h1:Bw l=Bw (l.take i)++(x.cells++Bw (l.drop (i+1))):=by
  unfold Bw
  rw[←List.flatten_cons,←List.map_cons,←List.flatten_append,←List.map_append]
  congr 2
  have:=V.drop_cons h
  rw[←this,List.take_append_drop]
 have h2:(Bw (l.take i)).length=i*4:=by
  rw[EE,List.length_take,Nat.min_eq_left (Nat.le_of_lt (List.getElem?_eq_some_iff.1 h).1)]
 rw[h1,List.append_assoc,List.drop_append_of_le_length q_o,←h2,List.drop_length,List.nil_append,List.append_assoc,List.take_append_of_le_length (by rw[V.cells_len];exact Nat.le_refl _),List.take_of_length_le (by rw[V.cells_len];exact Nat.le_refl _)]
end
section
attribute [local push_cast] Ad Ae Ao V.cells_mk V.cells_len Nat.mul_one Int.sub_zero List.map_nil beq_self_eq_true bne_self_eq_false List.head?_cons Bool.not_true Bool.not_false Nat.zero_add
theorem Lj(k:Int)(h1:1≤k)(h4:k≤4)(x y:V)(hx:x.Bg)(hy:y.Bg)(st:St):TrF Tryz.prog 85 [.i k,.agg x.cells,.agg y.cells] st fun d st'=>d=.b (Mat.holds k x y)∧st'=st:=by
 have hS:=GO x y hx hy
 have hC:=Fw x.nodes x y (Nat.le_refl _) hx hy
 unfold Mat.holds
 generalize x.cmp y=c at *
 clear hx hy
 cases x with
|mk k1 n1 s1 l1 =>
 cases y with
|mk k2 n2 s2 l2 =>
 rw[V.cells_mk,V.cells_mk] at *
 generalize l1.map V.cells=L1 at *
 generalize l2.map V.cells=L2 at *
 dsimp only[Mat.kd]
 replace hS:=Lib.hid hS
 replace hC:=Lib.hid hC
 by_cases e1:k=1
 · subst e1
   rw[if_pos rfl]
   refine Qin [6] Tryz.func85 Tryz.results85 Tryz.ntmps85 ?_
   exact WR
 by_cases e2:k=2
 · subst e2
   rw[if_neg (by decide),if_pos rfl]
   refine Qin [6] Tryz.func85 Tryz.results85 Tryz.ntmps85 ?_
   exact WR
 rw[if_neg e1,if_neg e2]
 by_cases hk:k1=k2
 · rw[beq_iff_eq.2 hk,Bool.true_and]
   subst hk
   by_cases e3:k=3
   · subst e3
     rw[show(((3:Int) == 3 && decide (c<0)) || ((3:Int) == 4 && decide (0<c)))=decide (c<0) by simp]
     refine Qin [6] Tryz.func85 Tryz.results85 Tryz.ntmps85 ?_
     exact WR
   · obtain rfl:k=4:=by omega
     rw[show(((4:Int) == 3 && decide (c<0)) || ((4:Int) == 4 && decide (0<c)))=decide (0<c) by simp]
     refine Qin [6] Tryz.func85 Tryz.results85 Tryz.ntmps85 ?_
     exact WR
 · rw[beq_eq_false_iff_ne.2 hk,Bool.false_and]
   refine Qin [6] Tryz.func85 Tryz.results85 Tryz.ntmps85 ?_
   exact WR
theorem UW{out:List V}{c:Nat}{u:V}(zs:List D)(h:c<out.length):List.take (c*4) (Bw out++zs)++u.cells++List.drop (c*4+4) (Bw out++zs)=Bw (out.set c u)++zs:=by
 obtain⟨z,hz⟩:=gEx h
 have hL:(out.map V.cells)[c]?=some z.cells:=by rw[List.getElem?_map,hz];rfl
 have hs:=DL (o:=0) (sz:=4) (ds:=u.cells) zs (out.map V.cells) c (fun e he=>by
  obtain⟨x, -,rfl⟩:=List.mem_map.1 he
  exact V.cells_len x) hL (by rw[V.cells_len];omega)
 have h1:Bh z.cells 0 u.cells=u.cells:=by
  unfold Bh
  rw[List.take_zero,List.nil_append,Nat.zero_add,List.drop_of_length_le (by rw[V.cells_len,V.cells_len];omega),List.append_nil]
 rw[h1,←List.map_set] at hs
 unfold Bh at hs
 rw[Nat.add_zero,V.cells_len] at hs
 exact hs
structure FK (f:Fc):Prop where
 v:∀x∈f.s,x.Ok∧x.nodes≤1000
 l:f.s.length≤1000000
namespace Mat
theorem test_bad{t:Ts}{f:Fc}{env:List V}(h:¬(0≤t.slot∧t.slot<f.s.length∧0≤t.var∧t.var<env.length∧1≤t.kind∧t.kind≤9)):test t f env=none:=if_neg h
theorem test_good{t:Ts}{f:Fc}{env:List V}{i v:Nat}{x y:V}(h:t.slot=i)(hv:t.var=v)(hi:f.s[i]?=some x)(hy:env[v]?=some y)(h1:1≤t.kind)(h9:t.kind≤9):test t f env=if t.kind=5 then some (env.set v x) else if t.kind<5 then(if holds t.kind x t.val=true then some env else none) else if holds (t.kind - 5) x y=true then some env else none:=by
 have hl:=(List.getElem?_eq_some_iff.1 hi).1
 have hl2:=(List.getElem?_eq_some_iff.1 hy).1
 unfold test
 rw[if_pos ⟨by omega,by omega,by omega,by omega,h1,h9⟩,h,hv,Int.toNat_natCast,Int.toNat_natCast,List.getD_eq_getElem?_getD,List.getD_eq_getElem?_getD,hi,hy]
 rfl
end Mat
theorem VM(t : Ts)(f:Fc)(env:List V)(ht:t.val.Bg)(hf:FK f)(he:∀v∈env,v.Bg)(hl2:env.length=8)(g cap:Nat)(zs:List D)(hz:(Bw env++zs).length=cap*4)(st:St) :
 TrF Tryz.prog 53 [.agg t.cells,.agg f.cells,.ar g 0 8 cap] (.box g 30 (Bw env++zs)::st) fun d st'=>d=.b (Mat.test t f env).isSome∧st'=.box g 30 (Bw ((Mat.test t f env).getD env)++zs)::st:=by
 by_cases hok:0≤t.slot∧t.slot<f.s.length∧0≤t.var∧t.var<env.length∧1≤t.kind∧t.kind≤9
 · obtain⟨h1,h2,h3,h4,h5,h6⟩:=hok
   obtain⟨i,hi⟩:∃i:Nat,t.slot=i:=⟨t.slot.toNat,by omega⟩
   obtain⟨v,hv⟩:∃v:Nat,t.var=v:=⟨t.var.toNat,by omega⟩
   obtain⟨x,hx⟩:=gEx (l:=f.s) (i:=i) q_o
   obtain⟨y,hy⟩:=gEx (l:=env) (i:=v) q_o
   rw[Mat.test_good hi hv hx hy h5 h6]
   have hxk:=hf.v x (List.mem_of_getElem? hx)
   have hyk:=he y (List.mem_of_getElem? hy)
   have hxc:(f.s.map V.cells)[i]?=some x.cells:=by rw[List.getElem?_map,hx];rfl
   have hml:(f.s.map V.cells).length=f.s.length:=List.length_map ..
   have hil:=(List.getElem?_eq_some_iff.1 hx).1
   have hvl:v<8:=by omega
   have hrd:=Xy zs hy
   have hset:=UW (u:=x) zs (show v<env.length by omega)
   have hdl:4≤(List.drop (v*4) (Bw env++zs)).length:=by
    rw[List.length_drop,List.length_append,EE];omega
   have hcap:v*4+4≤(Bw env++zs).length:=by rw[List.length_append,EE];omega
   have hC:=MZ x.nodes x (Nat.le_refl _) q_o
   have hH1:=fun(a:1≤t.kind) (b:t.kind≤4)=>Lj t.kind a b x t.val hxk.1.bg ht
   have hH2:=fun(a:1≤t.kind - 5) (b:t.kind - 5≤4)=>Lj (t.kind - 5) a b x y hxk.1.bg hyk
   cases t with
   | mk kind slot var val =>
   dsimp only at *
   subst hi hv
   cases f with
   | mk fid ftime ftm fver fs =>
   dsimp only at *
   unfold Fc.cells
   dsimp only
   generalize Mat.holds kind x val=q1 at *
   generalize Mat.holds (kind - 5) x y=q2 at *
   generalize fs.map V.cells=FS at *
   clear ht hf he hx hy hxk hyk h1 h2 h3 h4 hl2
   cases val with
   | mk k3 n3 s3 l3 =>
   cases x with
   | mk k1 n1 s1 l1 =>
   cases y with
   | mk k2 n2 s2 l2 =>
   rw[Ts.cells_mk]
   simp only[V.cells_mk] at *
   generalize l1.map V.cells=L1 at *
   generalize l2.map V.cells=L2 at *
   generalize l3.map V.cells=L3 at *
   replace hC:=Lib.hid hC
   by_cases e5:kind=5
   · subst e5
     rw[if_pos rfl]
     clear hH1 hH2
     dsimp only[Option.isSome,Option.getD]
     generalize Bw (env.set v _)++zs=R2 at *
     generalize Bw env++zs=R at *
     refine Qin [6] Tryz.func53 Tryz.results53 Tryz.ntmps53 ?_
     repeat' (first|refine QV ?_|((with_reducible refine QW ?_);intro hne;simp only[nes,ne1,and_assoc] at hne;repeat(have hq:=hne.1;replace hne:=hne.2))|refine QY ?_|(refine QB ?_;intro b)|(with_reducible refine QZ ?_<;>(try constructor)<;>intro hb<;>try intro hb1)|fail)
     all_goals exact Ar
   · rw[if_neg e5]
     by_cases e4:kind<5
     · rw[if_pos e4]
       have hH:=Lib.hid (hH1 h5 q_o)
       clear hH1 hH2 hset hrd
       cases q1
       all_goals(
        simp only[if_true,if_false,Bool.false_eq_true]
        dsimp only[Option.isSome,Option.getD]
        generalize Bw env++zs=R at *
        refine Qin [6] Tryz.func53 Tryz.results53 Tryz.ntmps53 ?_
        repeat' (first|refine QV ?_|((with_reducible refine QW ?_);intro hne;simp only[nes,ne1,and_assoc] at hne;repeat(have hq:=hne.1;replace hne:=hne.2))|refine QY ?_|(refine QB ?_;intro b)|(with_reducible refine QZ ?_<;>(try constructor)<;>intro hb<;>try intro hb1)|fail)
        all_goals exact Ar)
     · rw[if_neg e4]
       have hH:=Lib.hid (hH2 q_o q_o)
       clear hH1 hH2 hset
       cases q2
       all_goals(
        simp only[if_true,if_false,Bool.false_eq_true]
        dsimp only[Option.isSome,Option.getD]
        generalize Bw env++zs=R at *
        refine Qin [6] Tryz.func53 Tryz.results53 Tryz.ntmps53 ?_
        repeat' (first|refine QV ?_|((with_reducible refine QW ?_);intro hne;simp only[nes,ne1,and_assoc] at hne;repeat(have hq:=hne.1;replace hne:=hne.2))|refine QY ?_|(refine QB ?_;intro b)|(with_reducible refine QZ ?_<;>(try constructor)<;>intro hb<;>try intro hb1)|fail)
        all_goals exact Ar)
 · rw[Mat.test_bad hok]
   dsimp only[Option.isSome,Option.getD]
   clear ht hf he hz
   cases t with
   | mk kind slot var val =>
   dsimp only at hok
   rw[hl2] at hok
   cases f with
   | mk fid ftime ftm fver fs =>
   dsimp only at hok
   have hml:(fs.map V.cells).length=fs.length:=List.length_map ..
   unfold Fc.cells
   dsimp only
   generalize fs.map V.cells=FS at *
   generalize Bw env++zs=R
   cases val with
   | mk k3 n3 s3 l3 =>
   rw[Ts.cells_mk]
   generalize l3.map V.cells=L3 at *
   refine Qin [6] Tryz.func53 Tryz.results53 Tryz.ntmps53 ?_
   exact WR
end
section
mutual
inductive Frz (g n cap:Nat)(es:List (List D)):D→D→Prop
|same (d:D):Frz g n cap es d d
|ar:Frz g n cap es (.ar g 0 n cap) (.sl .shared es)
|agg (cs cs':List D) (h:FrzL g n cap es cs cs'):Frz g n cap es (.agg cs) (.agg cs')
|tup (cs cs':List D) (h:FrzL g n cap es cs cs'):Frz g n cap es (.tup cs) (.tup cs')
inductive FrzL (g n cap:Nat)(es:List (List D)):List D→List D→Prop
|nil:FrzL g n cap es [] []
|cons (d d':D) (l l':List D) (h:Frz g n cap es d d') (k:FrzL g n cap es l l'):FrzL g n cap es (d::l) (d'::l')
end
section
variable {g n cap:Nat} {es:List (List D)} {O O':Nat→Nat→Prop} {w:World}
mutual
theorem Frz.rep(he:Ext O w O' w)(hr:∀v,Rep O w v (.ar g 0 n cap)→Rep O' w v (.sl .shared es)):∀{d d':D},Frz g n cap es d d'→∀v,Rep O w v d→Rep O' w v d'
|_,_,.same d,v,h=>h.ext he
|_,_,.ar,v,h=>hr v h
|_,_,.agg cs cs' k,v,h=>by
  cases h with
  | agg us _ h1 h2 =>
   obtain⟨q1,q2⟩:=FrzL.rep he hr k us ⟨h1,h2⟩
   exact .agg us cs' q1 q2
|_,_,.tup cs cs' k,v,h=>by
  cases h with
  | tup us _ h1 h2 =>
   obtain⟨q1,q2⟩:=FrzL.rep he hr k us ⟨h1,h2⟩
   exact .tup us cs' q1 q2
theorem FrzL.rep(he:Ext O w O' w)(hr:∀v,Rep O w v (.ar g 0 n cap)→Rep O' w v (.sl .shared es)):∀{l l':List D},FrzL g n cap es l l'→∀us,RepL O w us l→RepL O' w us l'
|_,_,.nil,us,h=>by
  obtain rfl:=h.inv_nil
  exact .nil
|_,_,.cons d d' l l' h k,us,hh=>by
  obtain⟨u,t,rfl,k1,k2⟩:=hh.inv_cons
  exact .cons (Frz.rep he hr h u k1) (FrzL.rep he hr k t k2)
end
theorem FA{el:TypeId}{zs:List D}{s0:St}{sz:Nat}(hh:Holds (.box g el (es.flatten++zs)::s0) w)(hsz:0<sz)(hes:∀e∈es,e.length=sz)(hn:es.length=n)(v:Value)(hv:Rep (OwnS (.box g el (es.flatten++zs)::s0)) w v (.ar g 0 n cap)):Rep (OwnS s0) w v (.sl .shared es):=by
 have hch:Dv sz n ((es.flatten++zs).drop 0)=es:=by
  rw[List.drop_zero,←hn]
  exact Kh zs es hes
 have hr:=Wb .shared (.inl rfl) (sz:=sz) hh hv hsz (by rw[List.length_append,Bb hes,hn];omega) (by intro h;cases h)
 rwa[hch] at hr
end
section
variable {P:Program} {f:FuncId} {args:List D} {st:St}
theorem TrF.rest{ι:Type}{el:TypeId}{sz:Nat}{p:ι→Prop}{es:ι→List (List D)}{g n cap:ι→Nat}{F F':ι→D}{zs:ι→List D}{S:ι→St}(hsz:0<sz)(hes:∀i,p i→(∀e∈es i,e.length=sz)∧(es i).length=n i)(hF:∀i,Frz (g i) (n i) (cap i) (es i) (F i) (F' i))
 (h:TrF P f args st fun d st'=>∃i,p i∧d=F i∧st'=.box (g i) el ((es i).flatten++zs i)::S i):TrF P f args st fun d st'=>∃i,p i∧d=F' i∧st'=S i:=by
 intro vs w h1 h2
 refine(h vs w h1 h2).mono fun _ w' ⟨v,ev,d,s,k1,k2,k3,i,hi,e1,e2⟩=>?_
 subst e1 e2
 have he:=Ext.drop (st:=.box (g i) el ((es i).flatten++zs i)::S i) (st':=S i) (fun _ h=>List.mem_cons_of_mem _ h) w'
 exact⟨v,ev,_,S i,(hF i).rep he (FA k2 hsz (hes i hi).1 (hes i hi).2) v k1,k2.sub (List.sublist_cons_self _ _),k3.trans he,i,hi,rfl,rfl⟩
end
section
variable {P:Program} {N:Nat} {r:Option Nat} {A:AA} {st:St} {Q:Exit→AA→St→Prop}
theorem WZ{c:Code}{g b n cap sz:Nat}{el ty:TypeId}{es:List (List D)}{zs cs cs':List D}{s:St}(hp:st.Perm (.box g el (es.flatten++zs)::.box b ty cs::s))(hsz:0<sz)(hes:∀e∈es,e.length=sz)(hn:es.length=n)(hF:FrzL g n cap es cs cs')(hl:∀d∈cs',d.leaf=true)(h:Tr P N r c A (.box b ty cs'::s) Q):Tr P N r c A st Q:=by
 refine Af hp ?_
 intro a w h1 h2
 obtain⟨⟨us,hb,hr⟩,hlc⟩:=h2.2 (.box b ty cs) (List.mem_cons_of_mem _ (List.mem_cons_self ..))
 have he:=Ext.drop (st:=.box g el (es.flatten++zs)::.box b ty cs::s) (st':=.box b ty cs::s) (fun _ h=>List.mem_cons_of_mem _ h) w
 have hO:OwnS (.box b ty cs::s)=OwnS (.box b ty cs'::s):=by
  funext b' off;apply propext
  rw[OwnS.cons_iff,OwnS.cons_iff];exact Iff.rfl
 have h3:=h2.sub (List.sublist_cons_self (.box g el (es.flatten++zs)) (.box b ty cs::s))
 have hr':=hF.rep he (FA h2 hsz hes hn) us.toList hr
 have h4:Holds (.box b ty cs'::s) w:=by
  refine⟨List.pairwise_cons.2 ⟨fun x hx b' hb'=>(List.pairwise_cons.1 h3.1).1 x hx b' hb',(List.pairwise_cons.1 h3.1).2⟩,fun x hx=>?_⟩
  rcases List.mem_cons.1 hx with rfl|hx
  · exact⟨⟨us,hb,by rw[←hO];exact hr'⟩,hl⟩
  · rw[←hO];exact h3.2 x (List.mem_cons_of_mem _ hx)
 rw[hO] at he
 exact wpIn_mono (h a w (h1.ext he) h4) fun _ _ _=>PostA.ext he
end
end
section
attribute [local push_cast] Ad Ae Ao V.cells_mk V.cells_len Nat.mul_one Int.sub_zero List.map_nil beq_self_eq_true bne_self_eq_false List.head?_cons Bool.not_true Bool.not_false Nat.zero_add
theorem Gb(l:List V):∀e∈l.map V.cells,e.length=4:=fun e he=>by
 obtain⟨x, -,rfl⟩:=List.mem_map.1 he
 exact V.cells_len x
theorem Ru(o:Own)(l:List V)(hl0:l≠[])(hl:l.length≤1000000)(st:St):TrF Tryz.prog 52 [.sl o (l.map V.cells)] st fun d st'=>∃g cap zs,(Bw l++zs).length=cap*4∧d=.ar g 0 l.length cap∧st'=.box g 30 (Bw l++zs)::st:=by
 have hm:(l.map V.cells).length=l.length:=List.length_map ..
 have hpos:0<(l.map V.cells).length:=by rw[hm];exact List.length_pos_iff.2 hl0
 have hle:(l.map V.cells).length≤1000000:=by rw[hm];exact hl
 have h4:=Gb l
 have hne:l.map V.cells≠[]:=fun h=>by rw[h] at hpos;exact absurd hpos (Nat.lt_irrefl _)
 unfold Bw
 rw[←hm]
 generalize l.map V.cells=L at *
 clear hl0 hm
 refine Qin [2] Tryz.func52 Tryz.results52 Tryz.ntmps52 ?_
 repeat' (first|refine QV ?_|((with_reducible apply Mm);(focus exact q_v);(focus exact q_v);intro bn hbn)|with_reducible refine Em ?_|with_reducible refine Gs ?_|((with_reducible apply Eo);(focus exact hpos);(focus exact h4);(focus omega);(focus omega);intro g' cap' zs' hc hl')|refine QY ?_|(refine QB ?_;intro b)|(refine QP ?_;intro o' ho')|(with_reducible refine QZ ?_<;>(try constructor)<;>intro hb<;>try intro hb1)|fail)
 · exact absurd (hbn hb) hne
 · exact Ab (by simp) rfl (List.Sublist.refl _) (LE.of_eq q_v) ⟨g',cap',zs',hl',rfl,rfl⟩
def IX (R:Option (List V))(st:St)(d:D)(st':St):Prop:=(R=none∧d=.tup [.sl .tight [],.b false]∧st'=st)∨∃e g cap zs,R=some e∧d=.tup [.ar g 0 e.length cap,.b true]∧st'=.box g 30 (Bw e++zs)::st
theorem Mat.tests_drop{f:Fc}{L:List Ts}{i:Nat}{t:Ts}{e:List V}(h:L[i]?=some t):Mat.tests f (L.drop i) e=match Mat.test t f e with|some e'=>Mat.tests f (L.drop (i+1)) e'|none=>none:=by
 rw[V.drop_cons h];rfl
theorem Mat.test_len{t:Ts}{f:Fc}{env e:List V}(h:Mat.test t f env=some e):e.length=env.length:=by
 unfold Mat.test at h
 repeat' split at h
 all_goals first|(cases h;done)|(cases h;rfl)|(cases h;exact List.length_set ..)
theorem Mat.test_mem{Q:V→Prop}{t:Ts}{f:Fc}{env e:List V}(h:Mat.test t f env=some e)(hf:∀x∈f.s,Q x)(he:∀x∈env,Q x):∀x∈e,Q x:=by
 unfold Mat.test at h
 split at h
 · rename_i hc
   have hx:Q (f.s.getD t.slot.toNat V.zero):=by
    rw[List.getD_eq_getElem?_getD,List.getElem?_eq_getElem q_o]
    exact hf _ (List.getElem_mem _)
   repeat' split at h
   all_goals first|(cases h;done)|(cases h;exact he)|skip
   cases h
   intro x hm
   rcases List.mem_or_eq_of_mem_set hm with hm|rfl
   · exact he x hm
   · exact hx
 · cases h
theorem Mat.tests_len{f:Fc}:∀{l:List Ts} {env e:List V},Mat.tests f l env=some e→e.length=env.length
|[],_,_,h=>by cases h;rfl
|t::l,env,e,h=>by
  rw[Mat.tests] at h
  cases ht:Mat.test t f env with
  | none=>rw[ht] at h;cases h
  | some e'=>rw[ht] at h;rw[Mat.tests_len h,Mat.test_len ht]
theorem Mat.tests_mem{Q:V→Prop}{f:Fc}(hf:∀x∈f.s,Q x):∀{l:List Ts} {env e:List V},Mat.tests f l env=some e→(∀x∈env,Q x)→∀x∈e,Q x
|[],_,_,h,he=>by cases h;exact he
|t::l,env,e,h,he=>by
  rw[Mat.tests] at h
  cases ht:Mat.test t f env with
  | none=>rw[ht] at h;cases h
  | some e'=>rw[ht] at h;exact Mat.tests_mem hf h (Mat.test_mem ht hf he)
theorem Mat.pass_len{p:Pt}{f:Fc}{env e:List V}(h:Mat.pass p f env=some e):e.length=8:=by
 unfold Mat.pass at h
 split at h
 · rename_i hc
   rw[Mat.tests_len h,hc.2]
 · cases h
theorem Mat.pass_mem{Q:V→Prop}{p:Pt}{f:Fc}{env e:List V}(h:Mat.pass p f env=some e)(hf:∀x∈f.s,Q x)(he:∀x∈env,Q x):∀x∈e,Q x:=by
 unfold Mat.pass at h
 split at h
 · exact Mat.tests_mem hf h he
 · cases h
theorem Oe(p:Pt)(f:Fc)(env:List V)(hp:∀t∈p.tests,t.val.Bg)(hpl:p.tests.length≤1000000)(hf:FK f)(he:∀v∈env,v.Bg)(hel:env.length≤1000000)(R:Option (List V))(hR:Mat.pass p f env=R)(o:Own)(st:St):TrF Tryz.prog 17 [.agg p.cells,.agg f.cells,.sl o (env.map V.cells)] st (IX R st):=by
 have hm:(env.map V.cells).length=env.length:=List.length_map ..
 have hT:=fun(t:Ts) (e:List V) (ht:t∈p.tests) (he:∀v∈e,v.Bg) (hl:e.length=8) (g cap:Nat) (zs:List D) (hz:(Bw e++zs).length=cap*4)=>VM t f e (hp t ht) hf he hl g cap zs hz
 have hN:=fun(t:Ts) (e e':List V) (h:Mat.test t f e=some e') (he:∀v∈e,v.Bg)=>And.intro (Mat.test_len h) (Mat.test_mem h (fun x hx=>(hf.v x hx).1.bg) he)
 have hC:=Ru o env
 unfold Mat.pass at hR
 unfold IX
 by_cases hok:p.tmpl=f.tmpl∧env.length=8
 · rw[if_pos hok] at hR
   obtain⟨hpf,hl8⟩:=hok
   rw[hl8] at hC hm
   have hC2:=hC (fun h=>by rw[h] at hl8;cases hl8) q_o
   clear hC
   obtain⟨zs0,hzs0⟩:∃zs,(Bw env++zs).length=8*4:=⟨[],by rw[List.append_nil,EE,hl8]⟩
   have hE:Hid (∀st:St,∃(d:D) (st':St) (g cap:Nat) (zs:List D),(Bw env++zs).length=cap*4∧d=.ar g 0 8 cap∧st'=.box g 30 (Bw env++zs)::st):=fun st=>⟨_,_,0,8,zs0,hzs0,rfl,rfl⟩
   cases p with
   | mk tmpl neg tests =>
   have HD:Hid (∃L,L=tests∧Mat.tests f (L.drop 0) env=R):=⟨_,rfl,hR⟩
   have hpm:(tests.map Ts.cells).length=tests.length:=List.length_map ..
   have hpc:=hMp Ts.cells tests
   have hT2:=Lib.hid hT
   have hN2:=Lib.hid hN
   have he2:=Lib.hid he
   clear hT hN he hp hR hzs0 hf
   unfold Pt.cells
   dsimp only at *
   have hfc:f.cells=[.i f.id,.i f.time,.i f.tmpl,.i f.ver,.sl .shared (f.s.map V.cells)]:=rfl
   have hT3:Hid (∀(t:Ts) (e:List V),t∈tests→(∀v∈e,v.Bg)→e.length=8→∀(g cap:Nat) (zs:List D),(Bw e++zs).length=cap*4→∀st,TrF Tryz.prog 53 [.agg t.cells,.agg [.i f.id,.i f.time,.i f.tmpl,.i f.ver,.sl .shared (f.s.map V.cells)],.ar g 0 8 cap] (.box g 30 (Bw e++zs)::st) fun d st'=>d=.b (Mat.test t f e).isSome∧st'=.box g 30 (Bw ((Mat.test t f e).getD e)++zs)::st):=by rw[←hfc];exact hT2.out
   rw[hfc]
   clear hT2 hfc
   rw[hpf]
   clear hpf
   generalize f.id=f0 at *
   generalize f.time=f1 at *
   generalize f.tmpl=f2 at *
   generalize f.ver=f3 at *
   generalize f.s.map V.cells=FS at *
   generalize tests.map Ts.cells=TS at *
   replace hC2:=Lib.hid hC2
   generalize hEC:env.map V.cells=EC at *
   refine Qin [6,7] Tryz.func17 Tryz.results17 Tryz.ntmps17 ?_
   repeat' (first|refine QX ?_|(refine QB ?_;intro b)|(refine QP ?_;intro o' ho')|(with_reducible refine QZ ?_<;>(try constructor)<;>intro hb<;>try intro hb1)|((with_reducible apply(Br Tryz.call52));(focus exact List.Perm.refl _);(focus exact hC2.out _);(focus exact LEL.refl _);(focus exact hE.out _);(rintro d st' ⟨g,cap,zs,hz,rfl,rfl⟩))|fail)
   refine Aj (ι:=Nat) (fun i A st'=>i≤tests.length∧A.df=[]∧A.e 4=.ip [.i f0,.i f1,.i f2,.i f3,.sl .shared FS]∧A.e 8=.ar g 0 8 cap∧A.e 24=.sl .shared TS∧A.e 25=.i tests.length∧A.e 26=.i i∧∃e:List V,Hid (Mat.tests f (tests.drop i) e=R)∧Hid (e.length=8)∧Hid (∀v∈e,v.Bg)∧(Bw e++zs).length=cap*4∧st'=.box g 30 (Bw e++zs)::st) (fun i=>tests.length - i) 0 ⟨Nat.zero_le _,Qf,Qf,Qf,Qf,Qf,Qf,env,?_,hl8,he2.out,hz,rfl⟩ ?_
   · obtain⟨L,rfl,h⟩:=HD.out
     exact h
   rintro i A st' ⟨hi,hdf,e4,e8,e24,e25,e26,e,HT,hel8,heB,hz',rfl⟩
   clear HD hC2 hE hz
   by_cases hlt:i<tests.length
   · obtain⟨t,ht⟩:=gEx hlt
     have htc:=hpc.out i t ht
     have hTT:=hT3.out t e (List.mem_of_getElem? ht) heB.out hel8.out g cap zs hz'
     have HE:=HT.out
     rw[Mat.tests_drop ht] at HE
     have hNN:=hN2.out t e
     clear HT hT3 hN2 hpc ht
     cases hq:Mat.test t f e with
     | none =>
      rw[hq] at HE hTT
      dsimp only[Option.isSome,Option.getD] at hTT HE
      subst HE
      clear hNN hq
      cases t with
      | mk kind slot var val =>
      cases val with
      | mk k n s l =>
      rw[Ts.cells_mk] at *
      generalize l.map V.cells=VL at *
      generalize Bw e++zs=RR at *
      replace hTT:=Lib.hid hTT
      repeat' (first|refine QX ?_|(refine QB ?_;intro b)|(refine QP ?_;intro o' ho')|(with_reducible refine QZ ?_<;>(try constructor)<;>intro hb<;>try intro hb1)|fail)
      all_goals exact Ab (by simp) q_y q_t (LE.of_eq q_v) (.inl ⟨rfl,rfl,rfl⟩)
     | some e' =>
      rw[hq] at HE hTT
      dsimp only[Option.isSome,Option.getD] at hTT HE
      obtain⟨q1,q2⟩:=hNN e' hq heB.out
      have hz2:(Bw e'++zs).length=cap*4:=by
       rw[List.length_append,EE,q1,←EE,←List.length_append];exact hz'
      have hl2:Hid (e'.length=8):=q1.trans hel8.out
      replace q2:=Lib.hid q2
      replace HE:=Lib.hid HE
      clear hNN hq q1 heB hel8
      cases t with
      | mk kind slot var val =>
      cases val with
      | mk k n s l =>
      rw[Ts.cells_mk] at *
      generalize l.map V.cells=VL at *
      generalize hR2:Bw e'++zs=RR2 at *
      generalize Bw e++zs=RR at *
      replace hTT:=Lib.hid hTT
      repeat' (first|refine QX ?_|(refine QB ?_;intro b)|(refine QP ?_;intro o' ho')|(with_reducible refine QZ ?_<;>(try constructor)<;>intro hb<;>try intro hb1)|fail)
      refine⟨i+1,.box g 30 RR2::st,q_t,⟨hlt,?_,?_,?_,?_,?_,?_,e',HE,hl2,q2,by rw[hR2];exact hz2,by rw[hR2]⟩,by omega⟩
      all_goals exact Qf
   · have HE:=HT.out
     rw[List.drop_of_length_le q_o,Mat.tests] at HE
     subst HE
     clear HT hT3 hN2 hpc
     generalize hR2:Bw e++zs=RR at *
     repeat' (first|refine QX ?_|(refine QB ?_;intro b)|(refine QP ?_;intro o' ho')|(with_reducible refine QZ ?_<;>(try constructor)<;>intro hb<;>try intro hb1)|fail)
     all_goals exact Ab (by simp) q_y (List.Sublist.refl _) (LE.refl _) (.inr ⟨e,g,cap,zs,rfl,by rw[hel8.out];(try simp(disch:=omega) only[push_cast,simprocAttr, *]);(try exact rfl);done,by rw[hR2]⟩)
 · rw[if_neg hok] at hR
   subst hR
   clear hT hN hC hp hf he
   have hmm:(p.tests.map Ts.cells).length=p.tests.length:=List.length_map ..
   unfold Pt.cells Fc.cells
   generalize p.tests.map Ts.cells=TS at *
   generalize f.s.map V.cells=FS at *
   generalize env.map V.cells=EC at *
   generalize p.tmpl=a at *
   generalize f.tmpl=b at *
   generalize env.length=n at *
   by_cases hab:a=b
   · have hn:¬(n:Int)=8:=fun h=>hok ⟨hab,by omega⟩
     refine Qin [6,7] Tryz.func17 Tryz.results17 Tryz.ntmps17 ?_
     repeat' (first|refine QX ?_|(refine QB ?_;intro b)|(refine QP ?_;intro o' ho')|(with_reducible refine QZ ?_<;>(try constructor)<;>intro hb<;>try intro hb1)|fail)
     all_goals exact Ab (by simp) q_y q_t (LE.of_eq q_v) (.inl ⟨rfl,rfl,rfl⟩)
   · refine Qin [6,7] Tryz.func17 Tryz.results17 Tryz.ntmps17 ?_
     repeat' (first|refine QX ?_|(refine QB ?_;intro b)|(refine QP ?_;intro o' ho')|(with_reducible refine QZ ?_<;>(try constructor)<;>intro hb<;>try intro hb1)|fail)
     all_goals exact Ab (by simp) q_y q_t (LE.of_eq q_v) (.inl ⟨rfl,rfl,rfl⟩)
section
set_option maxHeartbeats 16000000
def FH:Option (List V)→D
|some e=>.tup [.sl .shared (e.map V.cells),.b true]
|none=>.tup [.sl .tight [],.b false]
theorem Vp{fn:FuncId}{args:List D}{R:Option (List V)}{st:St}(h:TrF Tryz.prog fn args st (IX R st)):TrF Tryz.prog fn args st fun d st'=>d=FH R∧st'=st:=by
 unfold IX at h
 cases R with
|none =>
  refine h.mono fun d st' h=>?_
  rcases h with⟨-,h1,h2⟩|⟨e,g,cap,zs,h, -⟩
  · exact⟨h1,h2⟩
  · cases h
|some F =>
  have h':=TrF.rest (ι:=Nat×Nat×List D) (el:=30) (p:=fun i:Nat×Nat×List D=>True) (g:=fun i=>i.1) (n:=fun _=>F.length) (cap:=fun i=>i.2.1) (es:=fun _=>F.map V.cells) (F:=fun i=>.tup [.ar i.1 0 F.length i.2.1,.b true]) (zs:=fun i=>i.2.2) (S:=fun _=>st) (F':=fun _=>.tup [.sl .shared (F.map V.cells),.b true]) (sz:=4) (by decide) (fun i _=>⟨Gb F,List.length_map ..⟩) (fun i=>.tup _ _ (.cons _ _ _ _ .ar (.cons _ _ _ _ (.same _) .nil))) (h.mono fun d st' h=>by
   rcases h with⟨h, -⟩|⟨e,g,cap,zs,h,h2,h3⟩
   · cases h
   · cases h
     exact⟨(g,cap,zs),trivial,h2,h3⟩)
  exact h'.mono fun d st' ⟨i,k1,k2,k3⟩=>⟨k2,k3⟩
theorem JG(p:Pt)(f:Fc)(env:List V)(hp:∀t∈p.tests,t.val.Bg)(hpl:p.tests.length≤1000000)(hf:FK f)(he:∀v∈env,v.Bg)(hel:env.length≤1000000)(o:Own)(st:St):TrF Tryz.prog 17 [.agg p.cells,.agg f.cells,.sl o (env.map V.cells)] st fun d st'=>d=FH (Mat.pass p f env)∧st'=st:=Vp (Oe p f env hp hpl hf he hel _ rfl o st)
end
def f7 (x:Int×List V):List D:=[.i x.1,.sl .shared (x.2.map V.cells)]
structure FKs (F:List Fc):Prop where
 f:∀f∈F,FK f
 l:F.length≤1000000
structure PK (p:Pt):Prop where
 v:∀t∈p.tests,t.val.Bg
 l:p.tests.length≤1000000
structure EK (e:List V):Prop where
 v:∀v∈e,v.Bg
 l:e.length≤1000000
def bZ (p:Pt)(F:List Fc)(env:List V):List D:=[.ip [.sl .shared (F.map Fc.cells)],.ip p.cells,.ip [.sl .shared (env.map V.cells)]]
def DV:Option Fc→D
|some f=>.tup [.agg f.cells,.b true]
|none=>.tup [.agg [.i 0,.i 0,.i 0,.i 0,.sl .tight []],.b false]
namespace Mat
def cM (F:List Fc):List Pt→List Int→List V→List V×Bool
|[],ids,env=>(env,decide (ids=[]))
|p::ps,ids,env=>if p.neg=true then(if passL p F env=[] then cM F ps ids env else([],false))
  else match ids with
   | []=>([],false)
   | i::is=>match find F i with
    | none=>([],false)
    | some f=>match pass p f env with
     | none=>([],false)
     | some e=>cM F ps is e
end Mat
end
section
attribute [local push_cast] Ad Ae Ao V.cells_mk V.cells_len Nat.mul_one Int.sub_zero List.map_nil beq_self_eq_true bne_self_eq_false List.head?_cons Bool.not_true Bool.not_false Nat.zero_add List.append_assoc Fl Fm
attribute [-instance] Aq Av Am
section
variable {P:Program} {r:Option Nat} {m:Option Ro} {A:AA} {st:St} {k:D→St→Prop} {dst:Option Tmp} {ty:TypeId} {pos:String} {aft:Array Edge} {gd:Option (Nat×Bool)} {t kt et:TypeId} {kn:Int} {o:Oper} {e:Nat→D} {K:D→St→Prop} {key:MK}
theorem Ku{x y:Operand}(ho:o.op=.lookup t x y true)(hx:ev e x=some (.s (.map none)))(hy:ev e y=some key.d)(hu:P.underlying t=some (.map kt et))(hk:KeyS P kt st key [])(hz:(P.info? et).bind (·.zero)=some (.int .i64 0))(h:K (.tup [.i 0,.b false]) st):OpC P r o e st K:=by
 refine AU (by rw[ho];intro c hc;cases hc) fun ρ w hr hh=>.inl ?_
 have hp:=AX (hr _ (by simp[ho,Op.operands]) _ hx)
 have hv:=Ms (hr _ (by simp[ho,Op.operands]) _ hy)
 have hk:=hk.wld hh
 unfold execOp
 rw[ho]
 simp only
 rw[hv,hp]
 have hz2:(zeroValue et).run P w=.ok (.int .i64 0) w:=by
  cases hi:P.info? et with
  | none=>rw[hi] at hz;cases hz
  | some i =>
   rw[hi] at hz
   simp only[Option.bind_some] at hz
   simp[zeroValue,typeInfo,hi,hz]
 have hf:(Instr.findKey kt key.v []).run P w=.ok none w:=Dy (l:=[]) hk
 refine⟨.tuple #[.int .i64 0,.bool false],w,?_,_,st,Jt _ _,hh,Ext.refl _ _,h⟩
 simp[Instr.lookup,run_underlying hu,CV hk,hf,hz2]
theorem Xs{x y:Operand}(hx:ev A.e x=some (.s (.map none)))(hy:ev A.e y=some (.i kn))(ht:kmT P t=some kt)(hk:KeyS P kt st (.i kn) [])(h:AE m st∧k (.tup [.i 0,.b false]) st):S P r m ⟨dst,.lookup t x y true,ty,pos,aft,gd⟩ A st k:=by
 obtain⟨et,t1,t2⟩:=FM ht
 exact Bk (R:=fun d s=>d=.tup [.i 0,.b false]∧s=st) rfl (Ku (key:=.i kn) rfl hx hy t1 hk t2 ⟨rfl,rfl⟩) ⟨_,_,rfl,rfl⟩ fun d s ⟨e1,e2⟩=>by subst e1 e2;exact h
end
theorem Rk(o : Nat)(ty:TypeId)(pre post:List D)(M:MemP)(K:List Fc)(id:Int)(hok:M.okF K)(hn:K.length≤1000000)(st:St) :
 TrF Tryz.prog 64 [.ptr o pre.length,.i id] (.box o ty (pre++(M.cells K.length++post))::(M.resF K++st)) fun d st'=>d=DV (Mat.find K id)∧st'=.box o ty (pre++(M.cells K.length++post))::(M.resF K++st):=by
 have hW:=Gz pre post
 generalize hpl:pre.length=off at *
 obtain⟨hd0,hd1,hd2,hd3,ht0,ht1,ht2,hl1,hl2,hl3⟩:=hW
 cases M with
|no =>
  obtain⟨hK, -⟩:=hok
  obtain rfl:K=[]:=List.map_eq_nil_iff.1 hK
  clear hK
  unfold MemP.resF DV
  dsimp only[MemP.cells,MemP.res,List.length_nil,List.nil_append,List.cons_append,Mat.find,List.find?_nil]
  refine CU (G:=OS Tryz.prog (.cell 4 43) (.tmp 5)) Tryz.func64 rfl (by rw[Tryz.ntmps64];exact Nat.le_of_ble_eq_true rfl) (fun h1 h2 h3=>Gc rfl h1 h2 h3) ?_
  simp only[Tryz.ntmps64]
  repeat' (first|refine QV ?_|((with_reducible apply(Xs (kn:=id) (kt:=3)));(focus exact q_v);(focus exact q_v);(focus kernel_rfl);(focus exact Dg (by kernel_rfl) (fun e he=>by cases he)))|refine QY ?_|(refine QB ?_;intro b)|(with_reducible refine QZ ?_<;>(try constructor)<;>intro hb<;>try intro hb1)|fail)
  all_goals(refine Cu (rs:=[]) q_x q_y (List.Perm.refl _) ⟨_,_,rfl,Bt q_s q_m q_s q_v,q_w⟩ q_t (LE.refl _) ⟨rfl,rfl⟩)
|at_ bm ml cm gl cl zl gk ck zk =>
  obtain⟨hM,hzl,hzk, -⟩:=hok
  have hle:Hid (∀e∈ml,∃n,e.k=.i n):=fun e he=>by
   obtain⟨x,hx,e1⟩:=List.mem_map.1 (hM.keys e he)
   exact⟨x.id,e1.symm⟩
  unfold MemP.resF
  dsimp only[MemP.cells,MemP.res,List.cons_append,List.nil_append]
  rw[CA] at hzk ⊢
  cases hq:Mat.find K id with
  | none =>
   have hno:BM ml (.i id)=none:=hM.none fun h=>by
    obtain⟨f,hf,e⟩:=List.mem_map.1 h
    have:=List.find?_eq_none.1 hq f hf
    exact this (beq_iff_eq.2 (MK.i.inj e))
   have hlkd:lkD ml (.i id)=.tup [.i 0,.b false]:=by unfold lkD;rw[hno]
   clear hq hno hM hzl hzk
   unfold DV
   dsimp only
   generalize AB K++zl=RL at *
   generalize Di K++zk=RK at *
   generalize K.length=n at *
   refine CU (G:=OS Tryz.prog (.cell 4 43) (.tmp 5)) Tryz.func64 rfl (by rw[Tryz.ntmps64];exact Nat.le_of_ble_eq_true rfl) (fun h1 h2 h3=>Gc rfl h1 h2 h3) ?_
   simp only[Tryz.ntmps64]
   repeat' (first|refine QV ?_|((with_reducible apply(UL (b:=bm) (kn:=id) (l:=ml) (c:=cm) (kt:=3)));(focus exact q_v);(focus exact q_v);(focus(repeat(first|exact Od|apply Oc)));(focus kernel_rfl);(focus exact Dg (by kernel_rfl) hle.out);rw[hlkd])|refine QY ?_|(refine QB ?_;intro b)|(with_reducible refine QZ ?_<;>(try constructor)<;>intro hb<;>try intro hb1)|fail)
   all_goals(refine Cu (rs:=[]) q_x q_y (List.Perm.refl _) ⟨_,_,rfl,Bt q_s q_m q_s q_v,q_w⟩ q_t (LE.refl _) ⟨rfl,rfl⟩)
  | some f =>
   have hfm:=List.mem_of_find?_eq_some hq
   have hfi:f.id=id:=beq_iff_eq.1 (List.find?_some (p:=fun f:Fc=>f.id == id) hq)
   obtain⟨j,hj,hje⟩:=List.getElem_of_mem hfm
   have hjs:K[j]?=some f:=by rw[List.getElem?_eq_getElem hj,hje]
   have hlkd:lkD ml (.i id)=.tup [.i j,.b true]:=by
    unfold lkD
    rw[hM.look (k:=.i id) (j:=j) (by rw[List.getElem?_map,hjs,←hfi];rfl)]
   have hrd:=QE zl hjs
   have hcl:j*5+5≤(AB K++zl).length:=by rw[List.length_append,AQ];omega
   have hdl:5≤(List.drop (j*5) (AB K++zl)).length:=by rw[List.length_drop];omega
   have hjc:K.length≤cl:=by rw[List.length_append,AQ] at hzl;omega
   subst hfi
   clear hq hM hzl hzk hfm hje hjs
   unfold DV
   dsimp only
   rw[show f.cells=[.i f.id,.i f.time,.i f.tmpl,.i f.ver,.sl .shared (f.s.map V.cells)] from rfl] at *
   generalize AB K++zl=RL at *
   generalize Di K++zk=RK at *
   generalize K.length=n at *
   generalize f.id=f0 at *
   generalize f.time=f1 at *
   generalize f.tmpl=f2 at *
   generalize f.ver=f3 at *
   generalize f.s.map V.cells=VS at *
   refine CU (G:=OS Tryz.prog (.cell 4 43) (.tmp 5)) Tryz.func64 rfl (by rw[Tryz.ntmps64];exact Nat.le_of_ble_eq_true rfl) (fun h1 h2 h3=>Gc rfl h1 h2 h3) ?_
   simp only[Tryz.ntmps64]
   repeat' (first|refine QV ?_|((with_reducible apply(UL (b:=bm) (kn:=f0) (l:=ml) (c:=cm) (kt:=3)));(focus exact q_v);(focus exact q_v);(focus(repeat(first|exact Od|apply Oc)));(focus kernel_rfl);(focus exact Dg (by kernel_rfl) hle.out);rw[hlkd])|refine QY ?_|(refine QB ?_;intro b)|(with_reducible refine QZ ?_<;>(try constructor)<;>intro hb<;>try intro hb1)|fail)
   all_goals(refine Cu (rs:=[]) q_x q_y (List.Perm.refl _) ⟨_,_,rfl,Bt q_s q_m q_s q_v,q_w⟩ q_t (LE.refl _) ⟨rfl,rfl⟩)
end
section
attribute [local push_cast] Ad Ae Ao V.cells_mk V.cells_len Nat.mul_one Int.sub_zero List.map_nil beq_self_eq_true bne_self_eq_false List.head?_cons Bool.not_true Bool.not_false Nat.zero_add
end
section
attribute [local push_cast] Ad Ae Ao V.cells_mk V.cells_len Nat.mul_one Int.sub_zero List.map_nil beq_self_eq_true bne_self_eq_false List.head?_cons Bool.not_true Bool.not_false Nat.zero_add
def f8 (x:List Int×List V):List D:=[.sl .shared (x.1.map Ae),.sl .shared (x.2.map V.cells)]
def Wc (x:Rl)(F:List Fc)(l b:Nat):List D:=[.ip x.cells,.ip [.fn (.yield l) [] []],.ip [.sl .shared (F.map Fc.cells)],.ptr b 0]
def fE (x:Rl)(F:List Fc)(l b:Nat):Res:=.box b 153 [.fn (.func 88) [] (Wc x F l b)]
abbrev dX (b l:Nat)(nm:ByteArray)(sal:Int)(PS AS FS:List (List D)):Res:=.box b 153 [.fn (.func 88) [] [.ip [.str nm,.i sal,.sl .shared PS,.sl .shared AS],.ip [.fn (.yield l) [] []],.ip [.sl .shared FS],.ptr b 0]]
def fK (S:St→St)(J Jx:Nat→St→Prop)(n:Nat)(d:D)(st':St):Prop:=(d=.b true∧∃C',st'=S C'∧J n C')∨(d=.b false∧∃i' C',st'=S C'∧Jx i' C')
end
section
section
variable {P:Program} {N:Nat} {r:Option Nat} {A:AA} {st s1:St} {Q:Exit→AA→St→Prop} {m:Option Ro} {k:D→St→Prop} {dst:Option Tmp} {ty:TypeId} {pos:String} {aft:Array Edge} {gd:Option (Nat×Bool)} {f:FuncId} {ds ds':List D} {w:World}
theorem TrF.inhab{R:D→St→Prop}(h:TrF P f ds st R){us:List Value}(hr:RepL (OwnS st) w us ds)(hh:Holds st w):∃d st',R d st':=by
 obtain⟨e,w',fr,⟨v, -,d,st', -, -, -,h4⟩, -⟩:=h us.toArray w (by simpa using hr) hh []
 exact⟨d,st',h4⟩
theorem TrF.pw{R:D→St→Prop}(h:st.Pairwise Apart→TrF P f ds st R):TrF P f ds st R:=fun vs w h1 h2=>h h2.1 vs w h1 h2
theorem Ry{b:Nat}{ty:TypeId}{cs:List D}{d:D}{i:Nat}(hh:Holds st w)(hm:Res.box b ty cs∈st)(hc:cs[i]?=some d):∃v,Rep (OwnS st) w v d:=by
 obtain⟨⟨us,h1,h2⟩, -⟩:=hh.2 _ hm
 obtain⟨u, -,hu⟩:=h2.get? hc
 exact⟨u,hu⟩
theorem Ah{R:D→St→Prop}{g:Operand}{args:Array Operand}{tys:Array TypeId}(hx:LZ (ev A.e g) (evL A.e args.toList)=some (f,ds))(henter:∀args w,(callFunc f args).run P w=.ok (.enter f args) w)(hp:st.Perm s1)(h:TrF P f ds' s1 R)(hle:LEL ds ds')(hk:∀d st',R d st'→k d st'):S P r none ⟨dst,.call ⟨.value g,args,tys⟩,ty,pos,aft,gd⟩ A st k:=by
 unfold LZ at hx
 split at hx
 · rename_i f' first caps hg
   cases ha:evL A.e args.toList with
   | none=>rw[ha] at hx;cases hx
   | some ds2 =>
    rw[ha] at hx
    cases hx
    exact(NR rfl rfl hg ha henter ((TrF.perm hp h).le hle)).mono hk
 · cases hx
theorem FX{id:Nat}{l:List Oper}(ro:Ro)(hm:P.follows .mixedOrders=true)(hB:EI .any l.toArray=true)(hok:CP N l=true)(hC:AE (some ro) st)
 (h:nes st→(∃w,Holds st w)→W P r (some ro) l.toArray (Q .normal) l A st):Tr P N r (.region id l.toArray true) A st Q:=fun a w h1 h2=>Bf ro hm hB hok hC (fun hne=>h hne ⟨w,h2⟩) a w h1 h2
end
end
section
def El (P:Program)(l:Nat){X:Type}(args:X→List D)(L:List X)(J Jx:Nat→St→Prop):Prop :=
 ∀(i:Nat) (x:X) (C K:St),L[i]?=some x→J i C→RoundC P l (args x) (C++K) fun d st'=>∃C',st'=C'++K∧((d=.s (.bool true)∧J (i+1) C')∨(d=.s (.bool false)∧Jx (i+1) C'))
def WM (P:Program)(g:FuncId)(caps:List D){X:Type}(args:X→List D)(L:List X)(K0:St)(Kend:St→Prop)(Kstop:Nat→St→Prop):Prop :=
 ∀(l:Nat) (C:St) (J Jx:Nat→St→Prop),El P l args L J Jx→J 0 C→TrF P g (.fn (.yield l) [] []::caps) (K0++C) fun _ st'=>∃K1 C',st'=K1++C'∧((Kend K1∧J L.length C')∨∃i,Kstop i K1∧Jx i C')
section
variable {P:Program} {N:Nat} {r:Option Nat} {A:AA} {st:St} {w:World} {Q:Exit→AA→St→Prop} {m:Option Ro} {k:D→St→Prop} {dst:Option Tmp} {ty:TypeId} {pos:String} {aft:Array Edge} {gd:Option (Nat×Bool)} {o:Oper}
theorem Jk{l:Nat}{X:Type}{args:X→List D}{L:List X}{J Jx:Nat→St→Prop}{f:St→St}{K C:St}{i:Nat}{x:X}{g:Operand}{oas:Array Operand}{tys:Array TypeId}{ds:List D}
 (hY:El P l args L J Jx)(hJ:J i C)(hx:L[i]?=some x)(hg:ev A.e g=some (.fn (.yield l) [] []))(ha:evL A.e oas.toList=some ds)(hle:LEL ds (args x))(hf:∀C,f C=K++C)
 (hk1:∀C',J (i+1) C'→k (.s (.bool true)) (f C'))(hk0:∀C',Jx (i+1) C'→k (.s (.bool false)) (f C')):S P r none ⟨dst,.call ⟨.value g,oas,tys⟩,ty,pos,aft,gd⟩ A (f C) k:=by
 have h:OpC P r ⟨dst,.call ⟨.value g,oas,tys⟩,ty,pos,aft,gd⟩ A.e (f C) fun d st'=>∃C',st'=f C'∧((d=.s (.bool true)∧J (i+1) C')∨(d=.s (.bool false)∧Jx (i+1) C')):=by
  refine Ih rfl rfl hg ha ?_
  refine(RoundC.perm (by rw[hf];exact List.perm_append_comm) (hY i x C K hx hJ) ?_).le hle
  rintro d s ⟨C',rfl,hc⟩
  exact⟨f C',by rw[hf];exact List.perm_append_comm,C',rfl,hc⟩
 refine h.mono ?_
 rintro d st' ⟨C',rfl,⟨rfl,h⟩|⟨rfl,h⟩⟩
 · exact hk1 C' h
 · exact hk0 C' h
theorem Dx{X:Type}{g:Operand}{ps:Array Tmp}{assign body:Code}{gf:FuncId}{caps:List D}{args:X→List D}{L:List X}{K0 C:St}{Kend:St→Prop}{Kstop:Nat→St→Prop}
 (hit:WM P gf caps args L K0 Kend Kstop)(hent:∀args w,(callFunc gf args).run P w=.ok (.enter gf args) w)(hg:ev A.e g=some (.fn (.func gf) [] caps))(hps:∀x,(args x).length=ps.size)(hpN:ps.toList.all (fun t=>decide (t<N))=true)
 (J:Nat→St→Prop)(Jx:Code→Nat→St→Prop)(h0:J 0 C)
 (hround:∀l i x C K,L[i]?=some x→J i C→Tr P N (some l) assign (Mj ⟨A.e,[]⟩ ps.toList (args x)) (C++K) (DI (fun A' st'=>∃C1,(C1++K).Sublist st'∧∀K',Tr P N (some l) body A' (C1++K') (Mr K' (i+1) J Jx)) (fun _ _ _=>False)))
 (hdone:∀d K1 C',Kend K1→J L.length C'→Q .normal ⟨A.e,BV d::A.df⟩ (Al d::(K1++C')))
 (hstop:∀c d i K1 C',Kstop i K1→Jx c i C'→Tr P N none c ⟨A.e,BV d::A.df⟩ (Al d::(K1++C')) Q) :
 Tr P N none (.rangeFunc g ps assign body) A (K0++C) Q:=by
 intro a w h1 h2
 have hr:=JZ h1 hg
 generalize hgv:a.eval g=gv at hr
 cases hr with
|fn _ us1 us2 _ _ l1 l2 r1 r2 =>
 obtain rfl:us1=[]:=List.eq_nil_of_length_eq_zero l1
 refine wpIn_rangeFunc fun fn hfn=>?_
 obtain⟨d,hd⟩:∃d,d=w.heap.size:=⟨_,rfl⟩
 obtain⟨rec,hrec⟩:∃rec,rec=Mz fn a.tmps ps assign body d:=⟨_,rfl⟩
 have n1:=Dt h2 (Res.raw d (.deferred (some []))) (fun b e=>by cases e;exact hd) (.deferred (some [])) (fun _=>by rw[hd];exact heap_alloc_new w _)
 obtain⟨w1,hw1⟩:∃w1,w1=w.alloc (.deferred (some [])):=⟨_,rfl⟩
 rw[←hw1] at n1
 have hs1:w1.heap.size=d+1:=by rw[hw1,hd];simp
 have n2:=Dt n1.1 (Res.raw (d+1) (.loop (rec .ready none))) (fun b e=>by cases e;exact hs1.symm) (.loop (rec .ready none)) (fun _=>by rw[←hs1];exact heap_alloc_new w1 _)
 obtain⟨W1,hW1⟩:∃W1,W1=w1.alloc (.loop (rec .ready none)):=⟨_,rfl⟩
 rw[←hW1] at n2
 obtain⟨tm,htm⟩:∃tm:Nat→Value,tm=fun t=>a.tmps.getD t undef:=⟨_,rfl⟩
 have n3:=n2.1.know (f:=tm) (e:=A.e) (fun t=>by rw[htm];exact((h1.ext n1.2).ext n2.2).2.2 t)
 obtain⟨B,hB⟩:∃B:LoopState→Option Code→St,B=fun s pe=>[Res.raw (d+1) (.loop (rec s pe)),Res.raw d (.deferred (some [])),Res.know tm A.e]:=⟨_,rfl⟩
 have hp:(Res.know tm A.e::Res.raw (d+1) (.loop (rec .ready none))::Res.raw d (.deferred (some []))::(K0++C)).Perm (K0++(C++B .ready none)):=by rw[hB];exact Ie
 have E3:Ext (OwnS (K0++C)) w (OwnS (K0++(C++B .ready none))) W1:=by rw[←OwnS.perm hp];exact n1.2.trans (n2.2.trans n3.2)
 have H3:=n3.1.perm hp
 have hnl:∀(x:Loop) c E fr,Obj.loop x≠.cells c E fr:=fun _ _ _ _ e=>by cases e
 have hY:El P (d+1) args L (fun i C'=>∃C,C'=C++B .ready none∧J i C) (fun i C'=>∃c C,C'=C++B .done (some c)∧Jx c i C):=by
  rintro i x C' K hx ⟨Cn,rfl,hJ⟩ vs w2 hv hh
  rw[List.append_assoc] at hv hh
  have hl:w2.heap[d+1]?=some (.loop (rec .ready none)):=hh.2 (Res.raw (d+1) (.loop (rec .ready none))) (by rw[hB];simp)
  have hkn:∀t,Rep (OwnS (Cn++(B .ready none++K))) w2 (tm t) (A.e t):=hh.2 (Res.know tm A.e) (by rw[hB];simp)
  have hy:=run_yield (P:=P) (args:=vs) hl (by rw[hrec,←Array.length_toList,hv.1];exact hps x)
  rw[hrec] at hy
  refine⟨fn,_,assign,body,hy,roundIn_of_wpIn hfn ?_⟩
  clear hy
  have hz:(ps.zip vs).foldl (fun tmps (t,a)=>tmps.setIfInBounds t a) a.tmps=(ps.toList.zip vs.toList).foldl (fun t (p,v)=>t.setIfInBounds p v) a.tmps:=by
   rw[←Array.foldl_toList,Array.toList_zip]
  have hrel:RelA N (OwnS (Cn++(B .ready none++K))) w2 ⟨(ps.zip vs).foldl (fun tmps (t,a)=>tmps.setIfInBounds t a) a.tmps,[]⟩ (Mj ⟨A.e,[]⟩ ps.toList (args x)):=by
   rw[hz]
   refine GX _ _ _ _ _ (fun p hp=>by simpa using List.all_eq_true.1 hpN p hp) ⟨h1.1,rfl,fun t=>?_⟩ hv
   have:=hkn t
   rw[htm] at this
   exact this
  refine wpIn_mono (hround (d+1) i x Cn (B .ready none++K) hx hJ _ w2 hrel hh) ?_
  rintro e a3 w3 ⟨A3,st3,k1,k2,k3,k4⟩
  cases e with
  | normal =>
   obtain⟨C1,hsub,hbody⟩:=k4
   have e3:=Ext.drop (fun _ h=>hsub.subset h) w3
   have H4:=k2.sub hsub
   have hl3:w3.heap[d+1]?=some (.loop (rec .ready none)):=H4.2 (Res.raw (d+1) (.loop (rec .ready none))) (by rw[hB];simp)
   refine⟨_,run_beginRound hl3 (by rw[hrec]),?_⟩
   have q:=Dj (C:=C1) (T:=[Res.raw d (.deferred (some [])),Res.know tm A.e]++K) (o':=.loop {rec .ready none with state:=.busy}) (by rw[hB] at H4;exact H4) (hnl _)
   have hbz:C1++(Res.raw (d+1) (.loop {rec .ready none with state:=.busy})::([Res.raw d (.deferred (some [])),Res.know tm A.e]++K))=C1++(B .busy none++K):=by rw[hB,hrec];rfl
   have hbr:C1++(Res.raw (d+1) (.loop (rec .ready none))::([Res.raw d (.deferred (some [])),Res.know tm A.e]++K))=C1++(B .ready none++K):=by rw[hB];rfl
   rw[hbz] at q
   rw[hbr] at q
   have E4:=(k3.trans e3).trans q.2
   refine wpIn_mono (hbody (B .busy none++K) _ _ ((k1.ext e3).ext q.2) q.1) ?_
   have fin:∀(jump:Option Code) (C5 st5:St) (w5:World),(C5++(B .busy none++K)).Sublist st5→Holds st5 w5→Ext (OwnS (C1++(B .busy none++K))) (w3.putObj (d+1) (.loop {rec .ready none with state:=.busy})) (OwnS st5) w5 →
    (Instr.endRound (d+1) jump).run P w5=.ok (.bool jump.isNone) (w5.putObj (d+1) (.loop (rec (if jump.isNone then .ready else .done) jump))) ∧
    Holds (C5++B (if jump.isNone then .ready else .done) jump++K) (w5.putObj (d+1) (.loop (rec (if jump.isNone then .ready else .done) jump))) ∧
    Ext (OwnS (Cn++B .ready none++K)) w2 (OwnS (C5++B (if jump.isNone then .ready else .done) jump++K)) (w5.putObj (d+1) (.loop (rec (if jump.isNone then .ready else .done) jump))):=fun jump C5 st5 w5 hs5 hh5 he5=>by
    have e5:=Ext.drop (fun _ h=>hs5.subset h) w5
    have H6:=hh5.sub hs5
    have hl5:w5.heap[d+1]?=some (.loop (rec .busy none)):=H6.2 (Res.raw (d+1) (.loop (rec .busy none))) (by rw[hB];simp)
    have hr5:=run_endRound (P:=P) jump hl5
    rw[hrec] at hr5 ⊢
    have q5:=Dj (C:=C5) (T:=[Res.raw d (.deferred (some [])),Res.know tm A.e]++K) (o':=.loop (Mz fn a.tmps ps assign body d (if jump.isNone then .ready else .done) jump)) (by rw[hB] at H6;exact H6) (hnl _)
    have hbz5:C5++(Res.raw (d+1) (.loop (Mz fn a.tmps ps assign body d (if jump.isNone then .ready else .done) jump))::([Res.raw d (.deferred (some [])),Res.know tm A.e]++K))=C5++B (if jump.isNone then .ready else .done) jump++K:=by rw[hB,hrec,List.append_assoc];rfl
    have hbr5:C5++(Res.raw (d+1) (.loop (rec .busy none))::([Res.raw d (.deferred (some [])),Res.know tm A.e]++K))=C5++(B .busy none++K):=by rw[hB];rfl
    rw[hbz5] at q5
    rw[hbr5] at q5
    refine⟨hr5,q5.1,?_⟩
    rw[show Cn++B .ready none++K=Cn++(B .ready none++K) by rw[List.append_assoc]]
    exact(E4.trans (he5.trans e5)).trans q5.2
   rintro e a5 w5 ⟨A5,st5,m1,m2,m3,m4⟩
   cases e with
   | normal =>
    obtain⟨C5,hs5,hJ5⟩:=m4
    obtain⟨f1,f2,f3⟩:=fin none C5 st5 w5 hs5 m2 m3
    exact⟨_,_,f1,_,rfl,.s (.bool true),_,.s _ rfl,f2,f3,_,rfl,.inl ⟨rfl,C5,rfl,hJ5⟩⟩
   | ret =>
    obtain⟨C5,hs5,hJ5⟩:=m4
    obtain⟨f1,f2,f3⟩:=fin (some .ret) C5 st5 w5 hs5 m2 m3
    exact⟨_,_,f1,_,rfl,.s (.bool false),_,.s _ rfl,f2,f3,_,rfl,.inr ⟨rfl,.ret,C5,rfl,hJ5⟩⟩
   | exit id =>
    obtain⟨C5,hs5,hJ5⟩:=m4
    obtain⟨f1,f2,f3⟩:=fin (some (.exit id)) C5 st5 w5 hs5 m2 m3
    exact⟨_,_,f1,_,rfl,.s (.bool false),_,.s _ rfl,f2,f3,_,rfl,.inr ⟨rfl,.exit id,C5,rfl,hJ5⟩⟩
   | goto t =>
    obtain⟨C5,hs5,hJ5⟩:=m4
    obtain⟨f1,f2,f3⟩:=fin (some (.goto t)) C5 st5 w5 hs5 m2 m3
    exact⟨_,_,f1,_,rfl,.s (.bool false),_,.s _ rfl,f2,f3,_,rfl,.inr ⟨rfl,.goto t,C5,rfl,hJ5⟩⟩
   | panic c=>exact m4.elim
   | outgrown=>exact m4.elim
  | exit id=>exact k4.elim
  | goto t=>exact k4.elim
  | ret=>exact k4.elim
  | panic c=>exact k4.elim
  | outgrown=>exact k4.elim
 refine⟨d+1,[BV d],W1,{target:=.fn (.func gf) us2.toArray,args:=#[.func (.yield (d+1)) #[] #[]]},W1,gf,#[.func (.yield (d+1)) #[] #[]]++us2.toArray,W1,?_,?_,fun _ _=>trivial,?_,(fun h=>by cases h),?_⟩
 · rw[hW1,hrec,hw1,hd]
   exact run_enterLoop_outer _ _ _ _ _
 · simp only[resolve,hgv]
   simp[go_sem]
 · simp[invoke,go_sem,hent]
 · have hcall := hit (d + 1) (C ++ B .ready none) _ _ hY ⟨C, rfl, h0⟩ (#[.func (.yield (d + 1)) #[] #[]] ++ us2.toArray) W1 (by
    have hvs:(#[Value.func (.yield (d+1)) #[] #[]]++us2.toArray).toList=Value.func (.yield (d+1)) #[] #[]::us2:=by simp
    rw[hvs]
    refine RepL.cons ?_ ?_
    · exact .fn (.yield (d+1)) [] [] [] [] rfl rfl (fun i h=>absurd h (Nat.not_lt_zero _)) (fun i h=>absurd h (Nat.not_lt_zero _))
    · exact⟨l2,fun i h h'=>(r2 i h h').ext E3⟩) H3
   refine(callsIn_wide.2 hcall).mono ?_
   rintro e w2 ⟨v,rfl,dd,st2, -,q2,q3,K1,C2,rfl,⟨hk,Cn,rfl,hJ⟩|⟨i,hk,c,Cn,rfl,hJ⟩⟩
   · have hl:w2.heap[d+1]?=some (.loop (rec .ready none)):=q2.2 (Res.raw (d+1) (.loop (rec .ready none))) (by rw[hB];simp)
     have hend:(Instr.endLoop (d+1)).run P w2=.ok none (w2.putObj (d+1) (.loop {rec .ready none with state:=.exhausted})):=by
      subst hrec;exact run_endLoop (P:=P) hl (by simp)
     have q2':Holds ((K1++Cn)++Res.raw (d+1) (.loop (rec .ready none))::[Res.raw d (.deferred (some [])),Res.know tm A.e]) w2:=by rw[hB,←List.append_assoc] at q2;exact q2
     have q:=Dj (o':=.loop {rec .ready none with state:=.exhausted}) q2' (hnl _)
     have hsub:(Al d::(K1++Cn)).Sublist (Al d::(K1++Cn++[Res.raw (d+1) (.loop {rec .ready none with state:=.exhausted}),Res.know tm A.e])):=(List.sublist_append_left _ _).cons_cons _
     have hpm:(K1++Cn++Res.raw (d+1) (.loop {rec .ready none with state:=.exhausted})::[Res.raw d (.deferred (some [])),Res.know tm A.e]).Perm (Al d::(K1++Cn++[Res.raw (d+1) (.loop {rec .ready none with state:=.exhausted}),Res.know tm A.e])):=by
      refine(List.Perm.append_left _ (.swap _ _ _)).trans ?_
      exact List.perm_middle
     have hq3:Ext (OwnS (K0++C)) w (OwnS ((K1++Cn)++Res.raw (d+1) (.loop (rec .ready none))::[Res.raw d (.deferred (some [])),Res.know tm A.e])) w2:=by
      have:=E3.trans q3
      rw[hB,←List.append_assoc] at this
      exact this
     have Ef:Ext (OwnS (K0++C)) w (OwnS (Al d::(K1++Cn))) (w2.putObj (d+1) (.loop {rec .ready none with state:=.exhausted})):=by
      refine((hq3.trans q.2).trans ?_)
      rw[OwnS.perm hpm]
      exact Ext.drop (fun _ h=>hsub.subset h) _
     exact⟨none,_,hend,⟨A.e,BV d::A.df⟩,_,⟨h1.1,by show BV d::a.defers=BV d::A.df;rw[h1.2.1],fun t=>(h1.2.2 t).ext Ef⟩,(q.1.perm hpm).sub hsub,Ef,hdone d K1 Cn hk hJ⟩
   · have hl:w2.heap[d+1]?=some (.loop (rec .done (some c))):=q2.2 (Res.raw (d+1) (.loop (rec .done (some c)))) (by rw[hB];simp)
     have hend:(Instr.endLoop (d+1)).run P w2=.ok (some c) (w2.putObj (d+1) (.loop {rec .done (some c) with state:=.exhausted})):=by
      subst hrec;exact run_endLoop (P:=P) hl (by simp)
     have q2':Holds ((K1++Cn)++Res.raw (d+1) (.loop (rec .done (some c)))::[Res.raw d (.deferred (some [])),Res.know tm A.e]) w2:=by rw[hB,←List.append_assoc] at q2;exact q2
     have q:=Dj (o':=.loop {rec .done (some c) with state:=.exhausted}) q2' (hnl _)
     have hsub:(Al d::(K1++Cn)).Sublist (Al d::(K1++Cn++[Res.raw (d+1) (.loop {rec .done (some c) with state:=.exhausted}),Res.know tm A.e])):=(List.sublist_append_left _ _).cons_cons _
     have hpm:(K1++Cn++Res.raw (d+1) (.loop {rec .done (some c) with state:=.exhausted})::[Res.raw d (.deferred (some [])),Res.know tm A.e]).Perm (Al d::(K1++Cn++[Res.raw (d+1) (.loop {rec .done (some c) with state:=.exhausted}),Res.know tm A.e])):=by
      refine(List.Perm.append_left _ (.swap _ _ _)).trans ?_
      exact List.perm_middle
     have hq3:Ext (OwnS (K0++C)) w (OwnS ((K1++Cn)++Res.raw (d+1) (.loop (rec .done (some c)))::[Res.raw d (.deferred (some [])),Res.know tm A.e])) w2:=by
      have:=E3.trans q3
      rw[hB,←List.append_assoc] at this
      exact this
     have Ef:Ext (OwnS (K0++C)) w (OwnS (Al d::(K1++Cn))) (w2.putObj (d+1) (.loop {rec .done (some c) with state:=.exhausted})):=by
      refine((hq3.trans q.2).trans ?_)
      rw[OwnS.perm hpm]
      exact Ext.drop (fun _ h=>hsub.subset h) _
     exact⟨some c,_,hend,wpIn_mono (hstop c d i K1 Cn hk hJ _ _ ⟨h1.1,by show BV d::a.defers=BV d::A.df;rw[h1.2.1],fun t=>(h1.2.2 t).ext Ef⟩ ((q.1.perm hpm).sub hsub)) fun _ _ _=>PostA.ext Ef⟩
end
end
section
attribute [local push_cast] Ad Ae Ao V.cells_mk V.cells_len Nat.mul_one Int.sub_zero List.map_nil beq_self_eq_true bne_self_eq_false List.head?_cons Bool.not_true Bool.not_false Nat.zero_add List.append_assoc Fl Fm
section
variable {P:Program} {f:FuncId} {args:List D} {st:St}
theorem TrF.ar0{R:D→St→Prop}{g off cap:Nat}(h:TrF P f (.sl .shared []::args) st R):TrF P f (.ar g off 0 cap::args) st R:=fun vs w h1 h2=>by
 obtain⟨u,t,e,k1,k2⟩:=RepL.inv_cons h1
 have k3:Rep (OwnS st) w u (.sl .shared []):=by
  cases k1 with
  | ar _ _ _ _ c1 c2 =>
   exact .sl .shared [] (some ⟨g,off,none⟩) cap [] 1 (Nat.zero_le _) c2 (fun e=>by cases e) q_o (fun e h=>by cases h) rfl (fun d h=>by simp at h) (fun i h=>absurd h (Nat.not_lt_zero _)) (fun i h=>absurd h (Nat.not_lt_zero _)) trivial
 exact h vs w (by rw[e];exact RepL.cons k3 k2) h2
theorem aw{w:World}{b:Nat}{ty:TypeId}{cs:List D}{s0:St}{v:Value}(hh:Holds (.box b ty cs::s0) w)(hv:Rep (OwnS (.box b ty cs::s0)) w v (.ptr b 0)):Rep (OwnS s0) w v (.ip cs):=by
 cases hv
 obtain⟨⟨us,hb,hr⟩,hlc⟩:=hh.2 _ (List.mem_cons_self ..)
 have he:Ext (OwnS (.box b ty cs::s0)) w (OwnS s0) w:=Ext.drop (fun _ h=>List.mem_cons_of_mem _ h) w
 have hr:=hr.ext he
 have hne:∀o,¬OwnS s0 b o:=fun o ho=>by
  obtain⟨x,hx,hxb,_⟩:=ho
  exact(List.pairwise_cons.1 hh.1).1 x hx b rfl hxb
 exact .ip b 0 us.toList cs hr.1 hlc (fun i hi=>⟨(Array.getElem?_eq_some_iff.1 hb).1,hne _,by
  rw[cell_of_row _ b (0+i) us ty (0,0) hb,Nat.zero_add]
  simp at hi ⊢⟩) hr.2
theorem TrF.capIp{g:Fn}{ty:TypeId}{cs:List D}{S:St}(h:TrF P f args st fun d st'=>∃b,d=.fn g [] [.ptr b 0]∧st'=.box b ty cs::S):TrF P f args st fun d st'=>d=.fn g [] [.ip cs]∧st'=S:=by
 intro vs w h1 h2
 refine(h vs w h1 h2).mono fun _ w' ⟨v,ev,d,s,k1,k2,k3,b,e1,e2⟩=>?_
 subst e1 e2
 have he:=Ext.drop (st:=.box b ty cs::S) (st':=S) (fun _ h=>List.mem_cons_of_mem _ h) w'
 refine⟨v,ev,_,S,?_,k2.sub (List.sublist_cons_self _ _),k3.trans he,rfl,rfl⟩
 cases k1 with
|fn _ us1 us2 _ _ hl1 hl2 hr1 hr2 =>
  obtain⟨u,t,rfl,q1,q2⟩:=RepL.inv_cons (us:=us2) (c:=.ptr b 0) (cs:=[]) ⟨hl2,hr2⟩
  obtain rfl:=q2.inv_nil
  have h3:RepL (OwnS S) w' [u] [.ip cs]:=RepL.cons (aw k2 q1) .nil
  exact .fn g us1 [u] [] [.ip cs] hl1 h3.1 (fun i h h'=>absurd h' (Nat.not_lt_zero _)) h3.2
end
def Cr (K:List Nat):List (List D):=K.map fun b=>[D.ptr b 0]
theorem Py(K:List Nat):(Cr K).flatten=Bi K:=by
 unfold Cr Bi
 induction K with
|nil=>rfl
|cons b K ih=>rw[List.map_cons,List.flatten_cons,ih,List.map_cons];rfl
theorem Kf(o:Own)(st:St):TrF Tryz.prog 140 [.sl o []] st fun d st'=>d=.sl .shared []∧st'=st:=by
 refine Qin [2] Tryz.func140 Tryz.results140 Tryz.ntmps140 ?_
 refine ET 117 1 0 ?_
 repeat' (first|refine QV ?_|((with_reducible apply Mm);(focus exact q_v);(focus exact q_v);intro bn hbn)|refine QY ?_|(refine QB ?_;intro b)|(refine QP ?_;intro o' ho')|(with_reducible refine QZ ?_<;>(try constructor)<;>intro hb<;>try intro hb1)|fail)
 · clear hbn hb
   exact Ar
 · exact Ar
theorem TW(g cap:Nat)(K:List Nat)(zs:List D)(hn:K.length≤10000000000000)(hpos:0<K.length)(st:St):TrF Tryz.prog 140 [.ar g 0 K.length cap] (.box g 117 (Bi K++zs)::st) fun d st'=>d=.sl .shared (Cr K)∧st'=.box g 117 (Bi K++zs)::st:=by
 have hrl:(Bi K).length=K.length*1:=by unfold Bi;rw[List.length_map,Nat.mul_one]
 have h':TrF Tryz.prog 140 [.ar g 0 K.length cap] (.box g 117 (Bi K++zs)::st) fun d st'=>∃i:Nat×Nat×List D,True∧d=.ar i.1 0 K.length i.2.1∧st'=.box i.1 117 ((Cr K).flatten++i.2.2)::.box g 117 (Bi K++zs)::st:=by
  rw[Py]
  generalize Bi K=RP at *
  generalize K.length=n at *
  refine Qin [2] Tryz.func140 Tryz.results140 Tryz.ntmps140 ?_
  repeat' (first|refine QV ?_|((with_reducible apply Hb);(focus exact q_v);(focus exact q_v))|with_reducible refine Mo ?_|with_reducible refine QN ?_|((with_reducible apply(Mv (ds:=RP) (zs:=zs)));(focus(repeat(first|exact Od|apply Oc)));(focus exact hrl);(focus exact hpos);(focus omega);(focus omega);intro g' cap' zs' hc hl')|refine QY ?_|(refine QB ?_;intro b)|(with_reducible refine QZ ?_<;>(try constructor)<;>intro hb<;>try intro hb1)|fail)
  exact Ab (by simp) q_y (List.Sublist.refl _) (LE.of_eq q_v) ⟨(g',cap',zs'),trivial,rfl,rfl⟩
 have h2:=TrF.rest (ι:=Nat×Nat×List D) (el:=117) (p:=fun _=>True) (g:=fun i=>i.1) (n:=fun _=>K.length) (cap:=fun i=>i.2.1) (es:=fun _=>Cr K) (F:=fun i=>.ar i.1 0 K.length i.2.1) (zs:=fun i=>i.2.2) (S:=fun _=>.box g 117 (Bi K++zs)::st) (F':=fun _=>.sl .shared (Cr K)) (sz:=1) (by decide) (fun i _=>⟨fun e he=>by
  obtain⟨x, -,rfl⟩:=List.mem_map.1 he
  rfl,List.length_map ..⟩) (fun i=>.ar) h'
 exact h2.mono fun d st' ⟨i,k1,k2,k3⟩=>⟨k2,k3⟩
theorem IR(o : Nat)(ty:TypeId)(pre post:List D)(M:MemP)(K:List Nat)(hok:M.okT K)(hn:K.length≤10000000000000)(st:St) :
 TrF Tryz.prog 104 [.ptr o pre.length] (.box o ty (pre++(M.cells K.length++post))::(M.resT K++st)) fun d st'=>d=.fn (.func 141) [] [.ip [.sl .shared (Cr K)]]∧st'=.box o ty (pre++(M.cells K.length++post))::(M.resT K++st):=by
 refine TrF.capIp (ty:=111) ?_
 have hW:=Gz pre post
 generalize hpl:pre.length=off at *
 obtain⟨hd0,hd1,hd2,hd3,ht0,ht1,ht2,hl1,hl2,hl3⟩:=hW
 cases M with
|no =>
  obtain⟨hK, -⟩:=hok
  obtain rfl:K=[]:=List.map_eq_nil_iff.1 hK
  clear hK
  have hC:=Lib.hid (Kf .tight)
  unfold MemP.resT Cr
  dsimp only[MemP.cells,MemP.res,List.length_nil,List.nil_append,List.cons_append,List.map_nil]
  refine Qin [2] Tryz.func104 Tryz.results104 Tryz.ntmps104 ?_
  repeat' (first|refine QX ?_|(refine QB ?_;intro b)|(with_reducible refine QZ ?_<;>(try constructor)<;>intro hb<;>try intro hb1)|refine Qc Tryz.call140 ((hC.out _)) ?_|fail)
  all_goals exact Ab (by simp) q_y (List.Sublist.refl _) (LE.of_eq q_v) ⟨_,rfl,rfl⟩
|at_ bm ml cm gl cl zl gk ck zk =>
  obtain⟨hM,hzl,hzk, -⟩:=hok
  unfold MemP.resT
  dsimp only[MemP.cells,MemP.res,List.cons_append,List.nil_append]
  have hC:Hid (∀st,TrF Tryz.prog 140 [.ar gl 0 K.length cl] (.box gl 117 (Bi K++zl)::st) fun d st'=>d=.sl .shared (Cr K)∧st'=.box gl 117 (Bi K++zl)::st):=fun st=>by
   rcases Nat.eq_zero_or_pos K.length with h0|hpos
   · obtain rfl:=List.eq_nil_of_length_eq_zero h0
     exact TrF.ar0 (Kf .shared _)
   · exact TW gl cl K zl hn hpos st
  clear hM hzl hzk
  generalize Cr K=LK at *
  generalize Bi K++zl=RL at *
  generalize (K.map MK.p).map MK.d++zk=RK at *
  generalize K.length=n at *
  refine Qin [2] Tryz.func104 Tryz.results104 Tryz.ntmps104 ?_
  repeat' (first|refine QX ?_|(refine QB ?_;intro b)|(with_reducible refine QZ ?_<;>(try constructor)<;>intro hb<;>try intro hb1)|fail)
  all_goals exact Ab (by simp) q_y (List.Sublist.refl _) (LE.of_eq q_v) ⟨_,rfl,rfl⟩
theorem IQ(K:List Nat)(hn:K.length≤10000000000000):WM Tryz.prog 141 [.ip [.sl .shared (Cr K)]] (fun b=>[D.ptr b 0]) K [] (fun R=>R=[]) (fun _ R=>R=[]):=by
 intro l C J Jx hY hJ
 have hKm:(Cr K).length=K.length:=List.length_map ..
 have hKc:Hid (∀(i:Nat) (b:Nat),K[i]?=some b→(Cr K)[i]?=some [.ptr b 0]):=fun i t h=>by unfold Cr;rw[List.getElem?_map,h];rfl
 have HY:=Lib.hid hY
 have HJ:=Lib.hid hJ
 clear hY hJ
 generalize Cr K=LK at *
 refine Qin [] Tryz.func141 Tryz.results141 Tryz.ntmps141 ?_
 refine Af (st':=C) (.refl _) ?_
 repeat' (first|refine QX ?_|(refine QB ?_;intro b)|(with_reducible refine QZ ?_<;>(try constructor)<;>intro hb<;>try intro hb1)|fail)
 refine Aj (ι:=Nat) (fun i A st'=>∃C',i≤K.length∧Hid (J i C')∧A.df=[]∧A.e 0=.fn (.yield l) [] []∧A.e 5=.sl .shared LK∧A.e 6=.i K.length∧A.e 7=.i i∧st'=C') (fun i=>K.length - i) 0 ⟨C,Nat.zero_le _,HJ,Qf,Qf,Qf,Qf,Qf,rfl⟩ ?_
 clear HJ
 rintro i A st' ⟨C',hi,HJ,hdf,e0,e5,e6,e7,rfl⟩
 by_cases hlt:i<K.length
 · obtain⟨x,hx⟩:=gEx hlt
   have hxc:=hKc.out i x hx
   clear hKc
   repeat' (first|refine QV ?_|((with_reducible apply(Jk HY.out HJ.out hx));(focus exact q_v);(focus exact q_v);(focus exact q_l);(focus(repeat(first|exact Jg|apply GQ));done);all_goals(intro C' hC'))|refine QY ?_|(refine QB ?_;intro b)|(with_reducible refine QZ ?_<;>(try constructor)<;>intro hb<;>try intro hb1)|fail)
   rotate_left
   · exact Ab q_x q_y q_u (LE.refl _) ⟨[],C',rfl,.inr ⟨_,rfl,hC'⟩⟩
   refine⟨i+1,C',q_t,⟨C',hlt,Lib.hid hC',?_,?_,?_,?_,?_,rfl⟩,by omega⟩
   all_goals exact Qf
 · have hil:i=K.length:=by omega
   subst hil
   clear HY hKc
   repeat' (first|refine QX ?_|(refine QB ?_;intro b)|(with_reducible refine QZ ?_<;>(try constructor)<;>intro hb<;>try intro hb1)|fail)
   exact Ab q_x q_y q_u (LE.refl _) ⟨[],st',rfl,.inl ⟨rfl,HJ.out⟩⟩
end
section
attribute [local push_cast] Ad Ae Ao V.cells_mk V.cells_len Nat.mul_one Int.sub_zero List.map_nil beq_self_eq_true bne_self_eq_false List.head?_cons Bool.not_true Bool.not_false Nat.zero_add
section
attribute [local push_cast] List.append_assoc Fl Fm
def Cb (K:List Fc):List (List D):=K.map Fc.cells
theorem Pz(K:List Fc):(Cb K).flatten=AB K:=rfl
theorem Kg(o:Own)(st:St):TrF Tryz.prog 110 [.sl o []] st fun d st'=>d=.sl .shared []∧st'=st:=by
 refine Qin [2] Tryz.func110 Tryz.results110 Tryz.ntmps110 ?_
 refine ET 43 5 0 ?_
 repeat' (first|refine QV ?_|((with_reducible apply Mm);(focus exact q_v);(focus exact q_v);intro bn hbn)|refine QY ?_|(refine QB ?_;intro b)|(refine QP ?_;intro o' ho')|(with_reducible refine QZ ?_<;>(try constructor)<;>intro hb<;>try intro hb1)|fail)
 · clear hbn hb
   exact Ar
 · exact Ar
theorem TX(g cap:Nat)(K:List Fc)(zs:List D)(hn:K.length≤1000000)(hpos:0<K.length)(st:St):TrF Tryz.prog 110 [.ar g 0 K.length cap] (.box g 43 (AB K++zs)::st) fun d st'=>d=.sl .shared (Cb K)∧st'=.box g 43 (AB K++zs)::st:=by
 have hrl:(AB K).length=K.length*5:=AQ K
 have h':TrF Tryz.prog 110 [.ar g 0 K.length cap] (.box g 43 (AB K++zs)::st) fun d st'=>∃i:Nat×Nat×List D,True∧d=.ar i.1 0 K.length i.2.1∧st'=.box i.1 43 ((Cb K).flatten++i.2.2)::.box g 43 (AB K++zs)::st:=by
  rw[Pz]
  generalize AB K=RP at *
  generalize K.length=n at *
  refine Qin [2] Tryz.func110 Tryz.results110 Tryz.ntmps110 ?_
  repeat' (first|refine QV ?_|((with_reducible apply Hb);(focus exact q_v);(focus exact q_v))|with_reducible refine Mo ?_|with_reducible refine QN ?_|((with_reducible apply(Mv (ds:=RP) (zs:=zs)));(focus(repeat(first|exact Od|apply Oc)));(focus exact hrl);(focus exact hpos);(focus omega);(focus omega);intro g' cap' zs' hc hl')|refine QY ?_|(refine QB ?_;intro b)|(with_reducible refine QZ ?_<;>(try constructor)<;>intro hb<;>try intro hb1)|fail)
  exact Ab (by simp) q_y (List.Sublist.refl _) (LE.of_eq q_v) ⟨(g',cap',zs'),trivial,rfl,rfl⟩
 have h2:=TrF.rest (ι:=Nat×Nat×List D) (el:=43) (p:=fun _=>True) (g:=fun i=>i.1) (n:=fun _=>K.length) (cap:=fun i=>i.2.1) (es:=fun _=>Cb K) (F:=fun i=>.ar i.1 0 K.length i.2.1) (zs:=fun i=>i.2.2) (S:=fun _=>.box g 43 (AB K++zs)::st) (F':=fun _=>.sl .shared (Cb K)) (sz:=5) (by decide) (fun i _=>⟨fun e he=>by
  obtain⟨x, -,rfl⟩:=List.mem_map.1 he
  rfl,List.length_map ..⟩) (fun i=>.ar) h'
 exact h2.mono fun d st' ⟨i,k1,k2,k3⟩=>⟨k2,k3⟩
theorem Rm(o : Nat)(ty:TypeId)(pre post:List D)(M:MemP)(K:List Fc)(hok:M.okF K)(hn:K.length≤1000000)(st:St) :
 TrF Tryz.prog 73 [.ptr o pre.length] (.box o ty (pre++(M.cells K.length++post))::(M.resF K++st)) fun d st'=>d=.fn (.func 111) [] [.ip [.sl .shared (Cb K)]]∧st'=.box o ty (pre++(M.cells K.length++post))::(M.resF K++st):=by
 refine TrF.capIp (ty:=24) ?_
 have hW:=Gz pre post
 generalize hpl:pre.length=off at *
 obtain⟨hd0,hd1,hd2,hd3,ht0,ht1,ht2,hl1,hl2,hl3⟩:=hW
 cases M with
|no =>
  obtain⟨hK, -⟩:=hok
  obtain rfl:K=[]:=List.map_eq_nil_iff.1 hK
  clear hK
  have hC:=Lib.hid (Kg .tight)
  unfold MemP.resF Cb
  dsimp only[MemP.cells,MemP.res,List.length_nil,List.nil_append,List.cons_append,List.map_nil]
  refine Qin [2] Tryz.func73 Tryz.results73 Tryz.ntmps73 ?_
  repeat' (first|refine QX ?_|(refine QB ?_;intro b)|(with_reducible refine QZ ?_<;>(try constructor)<;>intro hb<;>try intro hb1)|refine Qc Tryz.call110 ((hC.out _)) ?_|fail)
  all_goals exact Ab (by simp) q_y (List.Sublist.refl _) (LE.of_eq q_v) ⟨_,rfl,rfl⟩
|at_ bm ml cm gl cl zl gk ck zk =>
  obtain⟨hM,hzl,hzk, -⟩:=hok
  unfold MemP.resF
  dsimp only[MemP.cells,MemP.res,List.cons_append,List.nil_append]
  have hC:Hid (∀st,TrF Tryz.prog 110 [.ar gl 0 K.length cl] (.box gl 43 (AB K++zl)::st) fun d st'=>d=.sl .shared (Cb K)∧st'=.box gl 43 (AB K++zl)::st):=fun st=>by
   rcases Nat.eq_zero_or_pos K.length with h0|hpos
   · obtain rfl:=List.eq_nil_of_length_eq_zero h0
     exact TrF.ar0 (Kg .shared _)
   · exact TX gl cl K zl hn hpos st
  clear hM hzl hzk
  generalize Cb K=LK at *
  generalize AB K++zl=RL at *
  generalize (K.map JI).map MK.d++zk=RK at *
  generalize K.length=n at *
  refine Qin [2] Tryz.func73 Tryz.results73 Tryz.ntmps73 ?_
  repeat' (first|refine QX ?_|(refine QB ?_;intro b)|(with_reducible refine QZ ?_<;>(try constructor)<;>intro hb<;>try intro hb1)|fail)
  all_goals exact Ab (by simp) q_y (List.Sublist.refl _) (LE.of_eq q_v) ⟨_,rfl,rfl⟩
theorem Rj(K:List Fc)(hn:K.length≤1000000):WM Tryz.prog 111 [.ip [.sl .shared (Cb K)]] (fun b=>[D.agg b.cells]) K [] (fun R=>R=[]) (fun _ R=>R=[]):=by
 intro l C J Jx hY hJ
 have hKm:(Cb K).length=K.length:=List.length_map ..
 have hKc:Hid (∀(i:Nat) (b:Fc),K[i]?=some b→(Cb K)[i]?=some b.cells):=fun i t h=>by unfold Cb;rw[List.getElem?_map,h];rfl
 have HY:=Lib.hid hY
 have HJ:=Lib.hid hJ
 clear hY hJ
 generalize Cb K=LK at *
 refine Qin [] Tryz.func111 Tryz.results111 Tryz.ntmps111 ?_
 refine Af (st':=C) (.refl _) ?_
 repeat' (first|refine QX ?_|(refine QB ?_;intro b)|(with_reducible refine QZ ?_<;>(try constructor)<;>intro hb<;>try intro hb1)|fail)
 refine Aj (ι:=Nat) (fun i A st'=>∃C',i≤K.length∧Hid (J i C')∧A.df=[]∧A.e 0=.fn (.yield l) [] []∧A.e 5=.sl .shared LK∧A.e 6=.i K.length∧A.e 7=.i i∧st'=C') (fun i=>K.length - i) 0 ⟨C,Nat.zero_le _,HJ,Qf,Qf,Qf,Qf,Qf,rfl⟩ ?_
 clear HJ
 rintro i A st' ⟨C',hi,HJ,hdf,e0,e5,e6,e7,rfl⟩
 by_cases hlt:i<K.length
 · obtain⟨x,hx⟩:=gEx hlt
   have hxc:=hKc.out i x hx
   clear hKc
   rw[show x.cells=[.i x.id,.i x.time,.i x.tmpl,.i x.ver,.sl .shared (x.s.map V.cells)] from rfl] at hxc
   repeat' (first|refine QV ?_|((with_reducible apply(Jk HY.out HJ.out hx));(focus exact q_v);(focus exact q_v);(focus exact q_l);(focus(repeat(first|exact Jg|apply GQ));done);all_goals(intro C' hC'))|refine QY ?_|(refine QB ?_;intro b)|(with_reducible refine QZ ?_<;>(try constructor)<;>intro hb<;>try intro hb1)|fail)
   rotate_left
   · exact Ab q_x q_y q_u (LE.refl _) ⟨[],C',rfl,.inr ⟨_,rfl,hC'⟩⟩
   refine⟨i+1,C',q_t,⟨C',hlt,Lib.hid hC',?_,?_,?_,?_,?_,rfl⟩,by omega⟩
   all_goals exact Qf
 · have hil:i=K.length:=by omega
   subst hil
   clear HY hKc
   repeat' (first|refine QX ?_|(refine QB ?_;intro b)|(with_reducible refine QZ ?_<;>(try constructor)<;>intro hb<;>try intro hb1)|fail)
   exact Ab q_x q_y q_u (LE.refl _) ⟨[],st',rfl,.inl ⟨rfl,HJ.out⟩⟩
end
end
structure Tok where
 anc:List Nat
 id:Int
 env:List V
 km:MemP
 kids:List Nat
 count:Int
def Tok.b (t:Tok):Nat:=t.anc.headD 0
def Tok.lv (t:Tok):Nat:=t.anc.length - 1
def Tok.fromD (t:Tok):D:=match t.anc.tail with
|[]=>.s (.pointer none)
|p::_=>.ptr p 0
def Tok.pre (t:Tok):List D:=[t.fromD,.i t.lv,.i t.id,.sl .shared (t.env.map V.cells)]
def Tok.cells (t:Tok):List D:=t.pre++(t.km.cells t.kids.length++[.i t.count])
def Tok.res (t:Tok):St:=.box t.b 119 t.cells::t.km.resT t.kids
structure Nd where
 p:Pt
 fm:MemP
 fs:List Fc
 tm:MemP
 ts:List Nat
def Nd.cells (x:Nd):List D:=x.p.cells++(x.fm.cells x.fs.length++x.tm.cells x.ts.length)
def Nd.res (x:Nd):St:=x.fm.resF x.fs++x.tm.resT x.ts
theorem MemP.cells_len(M:MemP)(n:Nat):(M.cells n).length=3:=by cases M<;>rfl
theorem Nd.cells_len(x:Nd):x.cells.length=9:=by
 unfold Nd.cells
 rw[List.length_append,List.length_append,MemP.cells_len,MemP.cells_len]
 rfl
structure NC where
 c:Nat
 g:Nat
 cap:Nat
 zs:List D
 ns:List Nd
 H:List Tok
def Az (ns:List Nd):List D:=(ns.map Nd.cells).flatten
theorem AZ(ns:List Nd):(Az ns).length=ns.length*9:=by
 unfold Az
 induction ns with
|nil=>rfl
|cons x ns ih=>rw[List.map_cons,List.flatten_cons,List.length_append,ih,List.length_cons,Nd.cells_len,Nat.succ_mul,Nat.add_comm]
theorem CX{ns:List Nd}{k:Nat}{x:Nd}(h:ns[k]?=some x):Az ns=Az (ns.take k)++(x.cells++Az (ns.drop (k+1))):=by
 unfold Az
 rw[←List.flatten_cons,←List.map_cons,←List.flatten_append,←List.map_append]
 congr 2
 have:=V.drop_cons h
 rw[←this,List.take_append_drop]
theorem Dz{ns:List Nd}{k:Nat}{x:Nd}(h:ns[k]?=some x):(Az (ns.take k)).length=k*9:=by
 rw[AZ,List.length_take,Nat.min_eq_left (Nat.le_of_lt (List.getElem?_eq_some_iff.1 h).1)]
def Hf (ns:List Nd)(k:Nat)(x:Nd):List D:=Az (ns.take k)++x.p.cells
def Fr (ns:List Nd)(k:Nat)(x:Nd)(zs:List D):List D:=x.tm.cells x.ts.length++(Az (ns.drop (k+1))++zs)
def Fe (ns:List Nd)(k:Nat)(x:Nd):List D:=Az (ns.take k)++(x.p.cells++x.fm.cells x.fs.length)
def CO (ns:List Nd)(k:Nat)(zs:List D):List D:=Az (ns.drop (k+1))++zs
theorem bV{ns:List Nd}{k:Nat}{x:Nd}(h:ns[k]?=some x)(zs:List D):Az ns++zs=Hf ns k x++(x.fm.cells x.fs.length++Fr ns k x zs):=by
 unfold Hf Fr
 rw[CX h]
 unfold Nd.cells
 simp only[List.append_assoc]
theorem US{ns:List Nd}{k:Nat}{x:Nd}(h:ns[k]?=some x)(zs:List D):Az ns++zs=Fe ns k x++(x.tm.cells x.ts.length++CO ns k zs):=by
 unfold Fe CO
 rw[CX h]
 unfold Nd.cells
 simp only[List.append_assoc]
theorem He{ns:List Nd}{k:Nat}{x:Nd}(h:ns[k]?=some x):(Hf ns k x).length=k*9+3:=by
 unfold Hf
 rw[List.length_append,Dz h]
 rfl
theorem FF{ns:List Nd}{k:Nat}{x:Nd}(h:ns[k]?=some x):(Fe ns k x).length=k*9+6:=by
 unfold Fe
 rw[List.length_append,List.length_append,Dz h,MemP.cells_len]
 rfl
theorem Vv{ns:List Nd}{k:Nat}{x:Nd}(h:ns[k]?=some x):ns=ns.take k++x::ns.drop (k+1):=by
 rw[←V.drop_cons h,List.take_append_drop]
theorem Bv{α:Type}{ns:List α}{k:Nat}{y:α}:(ns.set k y).take k=ns.take k:=by
 rw[List.take_set_of_le (Nat.le_refl _)]
theorem BB{α:Type}{ns:List α}{k:Nat}{y:α}:(ns.set k y).drop (k+1)=ns.drop (k+1):=by
 rw[List.drop_set_of_lt (Nat.lt_succ_self _)]
def NC.cbox (S:NC):Res:=.box S.c 109 [.ar S.g 0 S.ns.length S.cap]
def NC.gbox (S:NC):Res:=.box S.g 115 (Az S.ns++S.zs)
def NC.st (S:NC):St:=S.cbox::S.gbox::(S.ns.flatMap Nd.res++S.H.flatMap Tok.res)
def NC.off (S:NC)(k:Nat):St:=S.cbox::((S.ns.take k).flatMap Nd.res++((S.ns.drop (k+1)).flatMap Nd.res++S.H.flatMap Tok.res))
theorem BH(a b:Res)(l m:St):(a::b::(l++m)).Perm (b::(l++(a::m))) :=
 (List.Perm.swap _ _ _).trans (.cons b List.perm_middle.symm)
theorem SO(p q r s:St):(p++(q++r)++s).Perm (q++(p++(r++s))):=by
 rw[List.append_assoc,List.append_assoc,←List.append_assoc,←List.append_assoc q]
 exact List.Perm.append_right _ List.perm_append_comm
theorem NC.at_T{S:NC}{k:Nat}{x:Nd}(h:S.ns[k]?=some x):S.st.Perm (.box S.g 115 (Fe S.ns k x++(x.tm.cells x.ts.length++CO S.ns k S.zs))::(x.tm.resT x.ts++(x.fm.resF x.fs++S.off k))):=by
 unfold NC.st NC.gbox
 rw[US h]
 have e:S.ns.flatMap Nd.res=(S.ns.take k).flatMap Nd.res++(x.res++(S.ns.drop (k+1)).flatMap Nd.res):=by
  conv=>lhs;rw[Vv h]
  rw[List.flatMap_append,List.flatMap_cons]
 rw[e]
 unfold NC.off Nd.res
 refine(List.Perm.swap _ _ _).trans (.cons _ ?_)
 generalize (S.ns.take k).flatMap (fun x=>x.fm.resF x.fs++x.tm.resT x.ts)=P1
 generalize (S.ns.drop (k+1)).flatMap (fun x=>x.fm.resF x.fs++x.tm.resT x.ts)=P2
 generalize S.H.flatMap Tok.res=P3
 generalize x.fm.resF x.fs=A
 generalize x.tm.resT x.ts=B
 have h1:((P1++(A++B++P2))++P3).Perm (B++(A++(P1++(P2++P3)))):=by
  refine(SO P1 (A++B) P2 P3).trans ?_
  rw[←List.append_assoc B]
  exact List.Perm.append_right _ List.perm_append_comm
 refine(h1.cons _).trans ?_
 rw[←List.append_assoc B A,←List.append_assoc B A (_::_)]
 exact List.perm_middle.symm
theorem NC.at_F{S:NC}{k:Nat}{x:Nd}(h:S.ns[k]?=some x):S.st.Perm (.box S.g 115 (Hf S.ns k x++(x.fm.cells x.fs.length++Fr S.ns k x S.zs))::(x.fm.resF x.fs++(x.tm.resT x.ts++S.off k))):=by
 have h1:=NC.at_T h
 rw[←US h,bV h] at h1
 refine h1.trans (.cons _ ?_)
 rw[←List.append_assoc,←List.append_assoc]
 exact List.Perm.append_right _ List.perm_append_comm
theorem NC.at_tok{S:NC}{t:Tok}{H0:List Tok}(h:S.H.Perm (t::H0)):S.st.Perm (.box t.b 119 t.cells::(t.km.resT t.kids++({S with H:=H0}:NC).st)):=by
 have h1:(S.H.flatMap Tok.res).Perm (t.res++H0.flatMap Tok.res):=by
  have:=h.flatMap_right Tok.res
  rwa[List.flatMap_cons] at this
 unfold NC.st
 have h2:(S.cbox::S.gbox::(S.ns.flatMap Nd.res++S.H.flatMap Tok.res)).Perm (S.cbox::S.gbox::(S.ns.flatMap Nd.res++(t.res++H0.flatMap Tok.res))):=((List.Perm.append_left _ h1).cons _).cons _
 refine h2.trans ?_
 rw[←List.cons_append,←List.cons_append,←List.append_assoc]
 show List.Perm _ (t.res++((S.cbox::S.gbox::S.ns.flatMap Nd.res)++H0.flatMap Tok.res))
 rw[←List.append_assoc]
 exact List.Perm.append_right _ List.perm_append_comm
section
namespace Nt
def exps (p:Pt)(F:List Fc)(env:List V):List (Int×List V):=if p.neg=true then(if Mat.passL p F env=[] then[(0,env)] else[]) else Mat.passL p F env
def cnt (p:Pt)(F:List Fc)(env:List V):Int:=if p.neg=true then(Mat.passL p F env).length else 0
theorem tok_b{t:Tok}(h:t.anc≠[]):t.anc=t.b::t.anc.tail:=by
 cases ha:t.anc with
|nil=>exact absurd ha h
|cons a l=>unfold Tok.b;rw[ha];rfl
structure Str (S:NC)(E:List Nat):Prop where
 ne:∀t∈S.H,t.anc≠[]
 nd:(S.H.map Tok.b).Nodup
 up:∀u∈S.H,u.anc.tail≠[]→∃t∈S.H,u.anc.tail=t.anc
 rt:∀u∈S.H,∀v∈S.H,u.anc.length=1→v.anc.length=1→u.b=v.b
 kn:∀t∈S.H,t.kids.Nodup
 km:∀t∈S.H,∀b,b∈t.kids↔∃u∈S.H,u.b=b∧u.anc.tail=t.anc
 kl:∀t∈S.H,t.kids.length≤1000
 lv:∀t∈S.H,t.anc.length≤S.ns.length
 tn:∀(k:Nat) (x:Nd),S.ns[k]?=some x→x.ts.Nodup
 tm:∀(k:Nat) (x:Nd),S.ns[k]?=some x→∀b,b∈x.ts↔∃u∈S.H,u.b=b∧u.anc.length=k+1∧b∉E
 okt:∀t∈S.H,t.km.okT t.kids
 okx:∀x∈S.ns,x.fm.okF x.fs∧x.tm.okT x.ts
 row:(Az S.ns++S.zs).length=S.cap*9
 nl:S.ns.length≤5
 ek:∀t∈S.H,EK t.env
 pk:∀x∈S.ns,PK x.p∧FKs x.fs∧x.fs.length≤1000
 ct:∀t∈S.H,0≤t.count∧t.count≤1000
 rx:∃t∈S.H,t.anc.length=1∧t.id=0∧t.env=Mat.empty
variable {S S':NC} {E X:List Nat} {t u v:Tok} {H0:List Tok}
theorem Str.same(h:Str S E)(hu:u∈S.H)(hv:v∈S.H)(e:u.b=v.b):u=v:=by
 have:=h.nd
 obtain⟨i,hi,rfl⟩:=List.getElem_of_mem hu
 obtain⟨j,hj,rfl⟩:=List.getElem_of_mem hv
 have h1:(S.H.map Tok.b)[i]?=(S.H.map Tok.b)[j]?:=by
  rw[List.getElem?_map,List.getElem?_map,List.getElem?_eq_getElem hi,List.getElem?_eq_getElem hj]
  exact congrArg some e
 have:=(List.getElem?_inj (by rw[List.length_map];exact hi) this).1 h1
 subst this
 rfl
theorem Str.anc_b(h:Str S E)(hu:u∈S.H)(hv:v∈S.H)(e:u.anc=v.anc):u=v:=h.same hu hv (by unfold Tok.b;rw[e])
def LocOk (S:NC)(t:Tok):Prop :=
 if t.anc.length=S.ns.length then t.count=0∧t.kids=[] else
 ∀x,S.ns[t.anc.length - 1]?=some x→t.count=cnt x.p x.fs t.env∧(∀u∈S.H,u.anc.tail=t.anc→(u.id,u.env)∈exps x.p x.fs t.env)∧(∀y∈exps x.p x.fs t.env,∃u∈S.H,u.anc.tail=t.anc∧(u.id,u.env)=y)∧∀u∈S.H,∀v∈S.H,u.anc.tail=t.anc→v.anc.tail=t.anc→u.id=v.id→u=v
def Loc (S:NC)(X:List Nat):Prop:=∀t∈S.H,t.b∉X→LocOk S t
structure Kept (S S':NC):Prop where
 c:S'.c=S.c
 g:S'.g=S.g
 cap:S'.cap=S.cap
 zs:S'.zs=S.zs
 nl:S'.ns.length=S.ns.length
 ns:∀(k:Nat) (x:Nd),S.ns[k]?=some x→∃y,S'.ns[k]?=some y∧y.p=x.p∧y.fs=x.fs
theorem Kept.refl(S:NC):Kept S S:=⟨rfl,rfl,rfl,rfl,rfl,fun _ x h=>⟨x,h,rfl,rfl⟩⟩
theorem Kept.trans{S'':NC}(h:Kept S S')(k:Kept S' S''):Kept S S'':=⟨k.c.trans h.c,k.g.trans h.g,k.cap.trans h.cap,k.zs.trans h.zs,k.nl.trans h.nl,fun i x hx=>by
 obtain⟨y,h1,h2,h3⟩:=h.ns i x hx
 obtain⟨z,k1,k2,k3⟩:=k.ns i y h1
 exact⟨z,k1,k2.trans h2,k3.trans h3⟩⟩
structure Grew (S S':NC)(t:Tok):Prop extends Kept S S' where
 keep:∀u,¬t.anc <:+ u.anc→(u∈S.H↔u∈S'.H)
 self:∃t'∈S'.H,t'.anc=t.anc∧t'.id=t.id∧t'.env=t.env
structure ExtR (S S':NC)(t:Tok)(id:Int)(env:List V):Prop extends Kept S S' where
 ex:∃kb,(∀u∈S.H,u.b≠kb)∧(∀u,u.anc≠t.anc→¬(kb::t.anc) <:+ u.anc→(u∈S.H↔u∈S'.H))∧(∃t'∈S'.H,t'.anc=t.anc∧t'.id=t.id∧t'.env=t.env∧t'.count=t.count∧t'.kids=t.kids++[kb])∧∃u∈S'.H,u.anc=kb::t.anc∧u.id=id∧u.env=env
def kidOf (t:Tok)(kb:Nat)(id:Int)(env:List V):Tok:=⟨kb::t.anc,id,env,.no,[],0⟩
def withKid (t:Tok)(kb:Nat)(M:MemP):Tok:={t with kids:=t.kids++[kb],km:=M}
def addKid (S:NC)(H0:List Tok)(t:Tok)(kb:Nat)(id:Int)(env:List V)(M:MemP):NC:={S with H:=kidOf t kb id env::withKid t kb M::H0}
theorem memH(hp:S.H.Perm (t::H0)):u∈S.H↔u=t∨u∈H0:=by rw[hp.mem_iff,List.mem_cons]
theorem Str.addKid(h:Str S [])(hp:S.H.Perm (t::H0))(hlt:t.anc.length<S.ns.length){kb:Nat}{id:Int}{env:List V}{M:MemP}(hf:∀u∈S.H,u.b≠kb)(hM:M.okT (t.kids++[kb]))(he:EK env)(hkl:t.kids.length<1000):Str (Nt.addKid S H0 t kb id env M) [kb]:=by
 have htm:t∈S.H:=(memH hp).2 (.inl rfl)
 have hH0:∀u∈H0,u∈S.H:=fun u hu=>(memH hp).2 (.inr hu)
 have hm:∀u,u∈(Nt.addKid S H0 t kb id env M).H↔u=kidOf t kb id env∨u=withKid t kb M∨u∈H0:=fun u=>by
  show u∈kidOf t kb id env::withKid t kb M::H0↔_
  rw[List.mem_cons,List.mem_cons]
 have old:∀u∈S.H,∃u'∈(Nt.addKid S H0 t kb id env M).H,u'.anc=u.anc∧u'.b=u.b:=fun u hu=>by
  rcases(memH hp).1 hu with rfl|hu
  · exact⟨_,(hm _).2 (.inr (.inl rfl)),rfl,rfl⟩
  · exact⟨u,(hm _).2 (.inr (.inr hu)),rfl,rfl⟩
 have new:∀u'∈(Nt.addKid S H0 t kb id env M).H,u'=kidOf t kb id env∨∃u∈S.H,u'.anc=u.anc∧u'.b=u.b∧u'.env=u.env∧u'.count=u.count:=fun u' hu=>by
  rcases(hm u').1 hu with rfl|rfl|hu
  · exact .inl rfl
  · exact .inr ⟨t,htm,rfl,rfl,rfl,rfl⟩
  · exact .inr ⟨u',hH0 u' hu,rfl,rfl,rfl,rfl⟩
 have htne:=h.ne t htm
 have hkidlen:(kidOf t kb id env).anc.length=t.anc.length+1:=rfl
 have htl:0<t.anc.length:=List.length_pos_iff.2 htne
 have Jf:∀u∈H0,u.anc≠t.anc:=fun u hu e=>by
  have hnd:=(hp.map Tok.b).nodup_iff.1 h.nd
  rw[List.map_cons,List.nodup_cons] at hnd
  exact hnd.1 (List.mem_map.2 ⟨u,hu,by unfold Tok.b;rw[e]⟩)
 constructor
 · intro u hu
   rcases new u hu with rfl|⟨u0,h0,e, -⟩
   · exact List.cons_ne_nil _ _
   · rw[e];exact h.ne u0 h0
 · have hnd:=(hp.map Tok.b).nodup_iff.1 h.nd
   show(kb::t.b::H0.map Tok.b).Nodup
   rw[List.nodup_cons]
   refine⟨fun hk=>?_,hnd⟩
   rw[List.mem_cons] at hk
   rcases hk with e|hk
   · exact hf t htm e.symm
   · obtain⟨u,hu,e⟩:=List.mem_map.1 hk
     exact hf u (hH0 u hu) e
 · intro u hu hne
   rcases new u hu with rfl|⟨u0,h0,e, -⟩
   · exact⟨_,(hm _).2 (.inr (.inl rfl)),rfl⟩
   · rw[e] at hne ⊢
     obtain⟨p,h1,h2⟩:=h.up u0 h0 hne
     obtain⟨p',k1,k2, -⟩:=old p h1
     exact⟨p',k1,h2.trans k2.symm⟩
 · intro u hu v hv h1 h2
   rcases new u hu with rfl|⟨u0,hu0,e,e', -⟩
   · rw[hkidlen] at h1;omega
   · rcases new v hv with rfl|⟨v0,hv0,q,q', -⟩
     · rw[hkidlen] at h2;omega
     · rw[e',q']
       exact h.rt u0 hu0 v0 hv0 (by rw[←e];exact h1) (by rw[←q];exact h2)
 · intro u hu
   rcases(hm u).1 hu with rfl|rfl|hu
   · exact List.nodup_nil
   · show(t.kids++[kb]).Nodup
     rw[List.nodup_append]
     refine⟨h.kn t htm,List.nodup_cons.2 ⟨List.not_mem_nil,List.nodup_nil⟩,?_⟩
     rintro a ha b hb rfl
     rw[List.mem_singleton.1 hb] at ha
     obtain⟨w,hw,e, -⟩:=(h.km t htm kb).1 ha
     exact hf w hw e
   · exact h.kn u (hH0 u hu)
 · intro u hu b
   have kidtail:(kidOf t kb id env).anc.tail=t.anc:=rfl
   rcases(hm u).1 hu with rfl|rfl|hu
   · refine⟨fun hb=>(by cases hb),?_⟩
     rintro⟨w,hw, -,e⟩
     exfalso
     have e:w.anc.tail=kb::t.anc:=e
     rcases new w hw with rfl|⟨w0,h0,e1, -⟩
     · rw[kidtail] at e
       have:=congrArg List.length e
       rw[List.length_cons] at this
       omega
     · rw[e1] at e
       obtain⟨p,h1,h2⟩:=h.up w0 h0 (by rw[e];exact List.cons_ne_nil _ _)
       refine hf p h1 ?_
       rw[e] at h2
       unfold Tok.b
       rw[←h2];rfl
   · show b∈t.kids++[kb]↔_
     rw[List.mem_append,List.mem_singleton]
     constructor
     · rintro(hb|rfl)
       · obtain⟨w,hw,e1,e2⟩:=(h.km t htm b).1 hb
         obtain⟨w',k1,k2,k3⟩:=old w hw
         exact⟨w',k1,k3.trans e1,(congrArg List.tail k2).trans e2⟩
       · exact⟨_,(hm _).2 (.inl rfl),rfl,rfl⟩
     · rintro⟨w,hw,e1,e2⟩
       rcases new w hw with rfl|⟨w0,h0,k1,k2, -⟩
       · exact .inr e1.symm
       · exact .inl ((h.km t htm b).2 ⟨w0,h0,k2.symm.trans e1,(congrArg List.tail k1).symm.trans e2⟩)
   · rw[h.km u (hH0 u hu) b]
     constructor
     · rintro⟨w,hw,e1,e2⟩
       obtain⟨w',k1,k2,k3⟩:=old w hw
       exact⟨w',k1,k3.trans e1,(congrArg List.tail k2).trans e2⟩
     · rintro⟨w,hw,e1,e2⟩
       rcases new w hw with rfl|⟨w0,h0,k1,k2, -⟩
       · exact absurd e2.symm (Jf u hu)
       · exact⟨w0,h0,k2.symm.trans e1,(congrArg List.tail k1).symm.trans e2⟩
 · intro u hu
   rcases(hm u).1 hu with rfl|rfl|hu
   · exact Nat.zero_le _
   · show(t.kids++[kb]).length≤1000
     rw[List.length_append,List.length_singleton];omega
   · exact h.kl u (hH0 u hu)
 · intro u hu
   rcases new u hu with rfl|⟨u0,h0,e, -⟩
   · rw[hkidlen];exact hlt
   · rw[e];exact h.lv u0 h0
 · exact h.tn
 · intro k x hx b
   rw[h.tm k x hx b]
   constructor
   · rintro⟨w,hw,e1,e2, -⟩
     obtain⟨w',k1,k2,k3⟩:=old w hw
     exact⟨w',k1,k3.trans e1,by rw[k2];exact e2,fun hb=>hf w hw (e1.trans (List.mem_singleton.1 hb))⟩
   · rintro⟨w,hw,e1,e2,e3⟩
     rcases new w hw with rfl|⟨w0,h0,k1,k2, -⟩
     · exact absurd (List.mem_singleton.2 e1.symm) e3
     · exact⟨w0,h0,k2.symm.trans e1,by rw[←k1];exact e2,List.not_mem_nil⟩
 · intro u hu
   rcases(hm u).1 hu with rfl|rfl|hu
   · exact⟨rfl,rfl⟩
   · exact hM
   · exact h.okt u (hH0 u hu)
 · exact h.okx
 · exact h.row
 · exact h.nl
 · intro u hu
   rcases new u hu with rfl|⟨u0,h0, -, -,e, -⟩
   · exact he
   · rw[e];exact h.ek u0 h0
 · exact h.pk
 · intro u hu
   rcases new u hu with rfl|⟨u0,h0, -, -, -,e⟩
   · exact⟨Int.le_refl _,(by show(0:Int)≤1000;decide)⟩
   · rw[e];exact h.ct u0 h0
 · obtain⟨r,h1,h2⟩:=h.rx
   rcases(memH hp).1 h1 with rfl|h1
   · exact⟨_,(hm _).2 (.inr (.inl rfl)),h2⟩
   · exact⟨r,(hm _).2 (.inr (.inr h1)),h2⟩
end Nt
end
end Go.Proofs.YtoeidpmjifjplaaGreat
