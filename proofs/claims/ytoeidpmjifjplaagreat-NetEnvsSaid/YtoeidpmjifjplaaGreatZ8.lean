/- Texts put together. No statement is proved here. -/
import Derived.Test.YtoeidpmjifjplaaGreatZ7
set_option linter.all false
set_option maxRecDepth 10000
set_option maxHeartbeats 8000000
namespace Go.Proofs.YtoeidpmjifjplaaGreat
open Go.RowKit Tryz
section
attribute [local push_cast] Br Bl BV V.cells_mk V.cells_len Nat.mul_one Int.sub_zero List.map_nil beq_self_eq_true bne_self_eq_false List.head?_cons Bool.not_true Bool.not_false Nat.zero_add List.append_assoc Kf Kg
attribute [-instance] Ck Cu BO
def CR (K:List Fc):List D:=(K.map Fc.cells).flatten
def Pq (f:Fc):MK:=.i f.id
def HG (K:List Fc):List D:=K.map λf=>D.i f.id
theorem Dz(K:List Fc):(CR K).length=K.length*5:=by
 unfold CR
 induction K with
|nil=>rfl
|cons f K ih=>rw[Au,AL,Ad,ih,An,Fc.cells_len,Cr,Dw]
theorem OW(K:List Fc)(f:Fc):CR (K++[f])=CR K++[f.cells].flatten:=by
 unfold CR
 rw[Bi,CW]
 rfl
theorem Gx(K:List Fc):(K.map Pq).map MK.d=HG K:=by rw[Ey];rfl
theorem bI(K:List Fc)(f:Fc):HG (K++[f])=HG K++[[D.i f.id]].flatten:=by
 unfold HG
 rw[Bi]
 rfl
def MemP.resF (K:List Fc)(M:MemP):St:=M.res 43 3 (CR K) (K.map Pq)
def MemP.okF (K:List Fc)(M:MemP):Prop:=M.ok 5 (CR K) (K.map Pq)
theorem Yj(o : Nat)(ty:TypeId)(pre post:List D)(M:MemP)(K:List Fc)(f:Fc)(hok:M.okF K)(hk:f.id∉K.map Fc.id)(hn:K.length<=1000000)(st:St) :
 TrF prog 65 [.ptr o pre.length,.i f.id,.agg f.cells] (.box o ty (pre++(M.cells K.length++post))::(M.resF K++st)) λd st'=>∃M':MemP,M'.okF (K++[f])/\d=.tup []/\(Res.box o ty (pre++(M'.cells (K.length+1)++post))::(M'.resF (K++[f])++st)).Perm st':=by
 have hW:=LQ pre post
 generalize hpl:pre.length=off at *
 obtain⟨hd0,hd1,hd2,hd3,ht0,ht1,ht2,hl1,hl2,hl3⟩:=hW
 rw[show D.agg f.cells=.agg [.i f.id,.i f.time,.i f.tmpl,.i f.ver,.sl .shared (f.s.map V.cells)]from rfl]
 have hfc:f.cells=[.i f.id,.i f.time,.i f.tmpl,.i f.ver,.sl .shared (f.s.map V.cells)]:=rfl
 generalize f.s.map V.cells=VS at *
 replace hfc:=Aa hfc
 cases M with
|no =>
  obtain⟨hK, -⟩:=hok
  obtain rfl:K=[]:=Eh.1 hK
  have hm:=MRep.put (k:=.i f.id) MRep.nil 0 AP
  clear hK
  unfold MemP.resF
  dsimp only[MemP.cells,MemP.res,List.length_nil,List.nil_append,List.cons_append]
  refine Qin [] func65 results65 ntmps65 ?_
  repeat' (first|refine QV ?_|((with_reducible refine Rd (kt:=3) ?_ ?_ ?_);(focus kernel_rfl);(focus exact q_v))|((with_reducible refine OS ?_);intro bm)|((with_reducible apply(GE (id:=4) [(o,pre++D.mp bm::D.sl .tight []::D.sl .tight []::post)] [0,2,3,4,5,6,7,8,9,10,11,12,13,14,15,16,17] 18 [1,19,20,21]));(iterate 3 (focus kernel_rfl));(iterate 2 (focus(simp only[Gy,AI,AM,BB,Bq];exact rfl)));(focus exact q_k);intro hne;(try simp only[nes,ne1,and_assoc]at hne);repeat(have hq:=hne.1;replace hne:=hne.2))|((with_reducible refine Exists.intro [] ?_);(with_reducible refine And.intro ?_ ?_);(focus exact q_k))|((with_reducible refine And.intro ?_ ?_);(focus exact q_k))|((with_reducible refine FL (id:=3) [(o,pre++D.mp bm::D.sl .tight []::D.sl .tight []::post)] ?_ ?_ ?_ ?_ ?_);(iterate 3 (focus kernel_rfl));(focus((repeat(first|exact BI|refine BX q_m ?_));done)))|((with_reducible refine And.intro ?_ ?_);(focus exact q_k))|((with_reducible apply(br (b:=bm) (kn:=f.id) (l:=[]) (c:=0) (n:=0) (kt:=3)));(focus exact q_v);(focus exact q_v);(focus exact q_v);(focus(repeat(first|exact Hn|apply Hm)));(focus kernel_rfl);(focus exact Hp (by kernel_rfl) (λe he=>by cases he)))|with_reducible refine Hz ?_|with_reducible refine Kj ?_|((with_reducible apply HH);(focus exact q_n);(focus exact CP rfl);(focus exact q_n);(focus exact q_n);intro g' c' z' hc' hl')|refine QY ?_|refine QB ?_;intro b|with_reducible refine QZ ?_<;>(try constructor)<;>intro hb<;>try intro hb1|fail)
  rename_i gl cl zl hcl hll
  refine Bf (by simp) q_y (Aj _) (LE.refl _) ⟨.at_ bm (ET [] 0 (.i f.id) 0).1 (ET [] 0 (.i f.id) 0).2 gl cl zl g' c' z',⟨hm,?_,?_,?_⟩,rfl,?_⟩
  . rw[<-hfc.out]at hll;exact hll
  . simpa [MK.d,Pq]using hl'
  . exact Dz [f]
  . rw[<-hfc.out]
    dsimp only[MemP.cells,MemP.res,List.cons_append,List.nil_append,List.map_cons,List.map_nil,MK.d,Pq,CR,List.flatten_cons,List.flatten_nil]
    rw[AY]
    (repeat(first|exact Ar _|refine Dl (by repeat(first|exact DA|apply CV)) ?_))
|at_ bm ml cm gl cl zl gk ck zk =>
  obtain⟨hM,hzl,hzk, -⟩:=hok
  have hkn:MK.i f.id∉K.map Pq:=λh=>by
   obtain⟨x,hx,e⟩:=Av.1 h
   exact hk (MK.i.inj e▸BJ hx)
  have hm:=hM.put cm hkn
  rw[Ab]at hm
  have hle:Hid (∀e∈ml,∃n,e.k=.i n):=λe he=>by
   obtain⟨x,hx,e1⟩:=Av.1 (hM.keys e he)
   exact⟨x.id,e1.symm⟩
  have hrl:=Dz K
  have hri:(HG K).length=K.length*1:=by unfold HG;rw[Ab,CG]
  have hra:=OW K f
  rw[hfc.out]at hra
  replace hra:=Aa hra
  have hrb:=Aa (bI K f)
  unfold MemP.resF
  dsimp only[MemP.cells,MemP.res,List.length_nil,List.nil_append,List.cons_append]
  rw[Gx]at hzk |-
  replace hm:=Aa hm
  have hzk1:(HG K++zk).length=ck*1:=by rw[CG];exact hzk
  clear hM hkn hzk hk
  have hKn:K.length+1<=1000001:=by omega
  obtain⟨RP,hRP⟩:∃RP,RP=CR K:=⟨_,rfl⟩
  obtain⟨RI,hRI⟩:∃RI,RI=HG K:=⟨_,rfl⟩
  rw[<-hRP]at hzl hrl hra |-
  rw[<-hRI]at hzk1 hri hrb |-
  obtain⟨n,hn2⟩:∃n,n=K.length:=⟨_,rfl⟩
  rw[<-hn2]at hrl hri hm hKn |-
  rw[<-hn2]at hn
  clear hRP hRI
  replace hn2:=Aa hn2
  refine Qin [] func65 results65 ntmps65 ?_
  repeat' (first|refine QV ?_|((with_reducible refine Rb (b:=bm) (kt:=3) ?_ ?_ ?_);(focus kernel_rfl);(focus exact q_v))|((with_reducible apply(GE (id:=4) [(o,pre++D.mp bm::D.ar gl 0 n cl::D.ar gk 0 n ck::post)] [0,2,3,4,5,6,7,8,9,10,11,12,13,14,15,16,17] 18 [1,19,20,21]));(iterate 3 (focus kernel_rfl));(iterate 2 (focus(simp only[Gy,AI,AM,BB,Bq];exact rfl)));(focus exact q_k);intro hne;(try simp only[nes,ne1,and_assoc]at hne);repeat(have hq:=hne.1;replace hne:=hne.2))|((with_reducible refine Exists.intro [] ?_);(with_reducible refine And.intro ?_ ?_);(focus exact q_k))|((with_reducible refine And.intro ?_ ?_);(focus exact q_k))|((with_reducible refine FL (id:=3) [(o,pre++D.mp bm::D.ar gl 0 n cl::D.ar gk 0 n ck::post)] ?_ ?_ ?_ ?_ ?_);(iterate 3 (focus kernel_rfl));(focus((repeat(first|exact BI|refine BX q_m ?_));done)))|((with_reducible refine And.intro ?_ ?_);(focus exact q_k))|((with_reducible apply(br (b:=bm) (kn:=f.id) (l:=ml) (c:=cm) (n:=n) (kt:=3)));(focus exact q_v);(focus exact q_v);(focus exact q_v);(focus(repeat(first|exact Hn|apply Hm)));(focus kernel_rfl);(focus exact Hp (by kernel_rfl) hle.out))|with_reducible refine Hy ?_|with_reducible refine Kl ?_|((with_reducible apply(Ii hrl hzl));(focus(intro g' cs';repeat(first|exact Hn|apply Hm)));(focus exact CP rfl);(iterate 2 (focus exact q_n));intro g1 c1 z1 hc1 hl1)|((with_reducible apply(Ii hri hzk1));(focus(intro g' cs';repeat(first|exact Hn|apply Hm)));(focus exact CP rfl);(iterate 2 (focus exact q_n));intro g2 c2 z2 hc2 hl2)|refine QY ?_|refine QB ?_;intro b|with_reducible refine QZ ?_<;>(try constructor)<;>intro hb<;>try intro hb1|fail)
  refine Bf (by simp) q_y (Aj _) (LE.refl _) ⟨.at_ bm (ET ml cm (.i f.id) n).1 (ET ml cm (.i f.id) n).2 g1 c1 z1 g2 c2 z2,⟨?_,?_,?_,?_⟩,rfl,?_⟩
  . rw[Bi];exact hm.out
  . rw[hra.out];exact hl1
  . rw[Gx,hrb.out,<-CG c2];exact hl2
  . rw[Dz,Ab]
  . rw[Gx,hra.out,hrb.out]
    dsimp only[MemP.cells,MemP.res,List.cons_append,List.nil_append]
    (repeat(first|exact Ar _|refine Dl (by repeat(first|exact DA|apply CV)) ?_))
end
section
attribute [local push_cast] Br Bl BV V.cells_mk V.cells_len Nat.mul_one Int.sub_zero List.map_nil beq_self_eq_true bne_self_eq_false List.head?_cons Bool.not_true Bool.not_false Nat.zero_add List.append_assoc Kf Kg
attribute [-instance] Ck Cu BO
theorem Ms{α:Type}{K:List α}{i n:Nat}{z:α}(hn:K.length=n+1)(hi:i<n+1)(hz:K[n]?=some z):K.set i z=Cz K i z++[z]:=by
 have h:(K.set i z).drop n=[z]:=by
  have hl:(K.set i z).length=n+1:=by rw[AV,hn]
  have hg:(K.set i z)[n]?=some z:=by
   rw[GN]
   by_cases e:i=n
   . rw[if_pos e,if_pos q_o]
   . rw[if_neg e];exact hz
  rw[V.drop_cons hg,Az q_o]
 unfold Cz
 conv=>lhs;rw[<-Bv n (K.set i z),h]
 rw[hn,Mf]
theorem Jw{α:Type}{K:List α}{i n:Nat}{z:α}(hn:K.length=n+1):(Cz K i z).length=n:=by
 unfold Cz
 rw[AQ,AV,hn]
 omega
theorem RG{l:List KE}{c:Nat}{k:MK}{x:Int}(h:(l.map KE.k).Nodup):∀e∈(ET l c k x).1,e.k=k\/∃e'∈l,e'.k=e.k:=λe he=>by
 obtain⟨h1,h2⟩:=Nz (c:=c) (k:=k) (x:=x) h
 have h3:=Fr h1 he
 rw[h2]at h3
 split at h3
 . rename_i e1;exact .inl e1
 . obtain⟨e',h4,h5, -⟩:=Lh h3
   exact .inr ⟨e',h4,h5⟩
theorem OX{R zs:List D}{n:Nat}{d:D}(hn:R.length=n+1)(h:R[n]?=some d):List.drop n (R++zs)=d::zs:=by
 rw[DF q_o,V.drop_cons h,Az q_o]
 rfl
theorem KD{R zs:List D}{i:Nat}{d:D}(hi:i<R.length):List.take i (R++zs)++d::List.drop (i+1) (R++zs)=R.set i d++zs:=by
 rw[CH q_o,DF q_o,YB,if_pos hi,Ai]
 rfl
theorem Ow{R zs:List D}{i:Nat}{d:D}(h:R[i]?=some d):List.drop i (R++zs)=d::(R.drop (i+1)++zs):=by
 have:=(Af.1 h).1
 rw[DF q_o,V.drop_cons h]
 rfl
theorem MRep.swap_map{l:List KE}{α:Type}{K:List α}{f:α->MK}{i n:Nat}{k z:α}(c:Nat)(h:MRep l (K.map f))(hn:K.length=n+1)(hi:K[i]?=some k)(hz:K[n]?=some z):MRep (IV (ET l c (f z) i).1 (f k)) ((Cz K i z).map f):=by
 have h1:=h.drop (i:=i) (k:=f k) (z:=f z) c (by rw[Aq,hi];rfl) (by rw[Ab,Aq,hn,Mf,hz];rfl)
 have h2:Cz (K.map f) i (f z)=(Cz K i z).map f:=by
  unfold Cz
  rw[Ab,NU,Ff]
 rwa[h2]at h1
theorem Ub(o : Nat)(ty:TypeId)(pre post:List D)(M:MemP)(K:List Nat)(kb z i n:Nat)(hok:M.okT K)(hn:K.length=n+1)(hi:K[i]?=some kb)(hz:K[n]?=some z)(hnl:n<=10000000000000)(st:St)(hl:∀b∈K,LiveO o st b) :
 TrF prog 142 [.ptr o pre.length,.ptr kb 0] (.box o ty (pre++(M.cells K.length++post))::(M.resT K++st)) λd st'=>∃M':MemP,M'.okT (Cz K i z)/\d=.tup []/\(Res.box o ty (pre++(M'.cells n++post))::(M'.resT (Cz K i z)++st)).Perm st':=by
 have hW:=LQ pre post
 generalize hpl:pre.length=off at *
 obtain⟨hd0,hd1,hd2,hd3,ht0,ht1,ht2,hl1,hl2,hl3⟩:=hW
 have hin:i<n+1:=by have:=(Af.1 hi).1;omega
 cases M with
|no =>
  obtain⟨hK, -⟩:=hok
  obtain rfl:K=[]:=Eh.1 hK
  cases hi
|at_ bm ml cm gl cl zl gk ck zk =>
  obtain⟨hM,hzl,hzk, -⟩:=hok
  rw[GY]at hzk
  have hlkd:lkD ml (.p kb)=.tup [.i i,.b true]:=by
   unfold lkD
   rw[hM.look (k:=.p kb) (j:=i) (by rw[Aq,hi];rfl)]
  have hMs:=Aa (MRep.swap_map (f:=MK.p) cm hM hn hi hz)
  have hlk:=Aa (hl kb (Ah hi))
  have hlz:=Aa (hl z (Ah hz))
  have hle:Hid (∀e∈ml,∃b,e.k=.p b/\LiveO o st b):=λe he=>by
   obtain⟨x,hx,e1⟩:=Av.1 (hM.keys e he)
   exact⟨x,e1.symm,hl x hx⟩
  have hle2:Hid (∀e∈(ET ml cm (.p z) i).1,∃b,e.k=.p b/\LiveO o st b):=λe he=>by
   rcases RG hM.nd e he with e1|⟨e',h1,h2⟩
   . exact⟨z,e1,hlz.out⟩
   . rw[<-h2];exact hle.out e' h1
  have hrl:(Eb K).length=n+1:=by unfold Eb;rw[Ab,hn]
  have hgz:(Eb K)[n]?=some (D.ptr z 0):=by unfold Eb;rw[Aq,hz];rfl
  have hset:(Eb K).set i (D.ptr z 0)=Eb (Cz K i z)++[D.ptr z 0]:=by
   unfold Eb
   rw[show(K.map λb=>D.ptr b 0).set i (D.ptr z 0)=(K.set i z).map λb=>D.ptr b 0 from Ff.symm,Ms hn hin hz,Bi]
   rfl
  have hgi:((Eb K).set i (D.ptr z 0))[i]?=some (D.ptr z 0):=by
   rw[BA q_o]
  have hdl:=OX (zs:=zl) hrl hgz
  have hdk:=OX (zs:=zk) hrl hgz
  have hsl:=KD (zs:=zl) (d:=D.ptr z 0) (show i<(Eb K).length by omega)
  have hsk:=KD (zs:=zk) (d:=D.ptr z 0) (show i<(Eb K).length by omega)
  have hdk2:=Ow (zs:=zk) hgi
  have hll:(Eb K++zl).length=cl:=by rw[hzl,CG]
  have hcl:n+1<=cl:=by rw[Ad]at hll;omega
  have hck:n+1<=ck:=by rw[Ad]at hzk;omega
  have hfin:Hid ((Eb K).set i (D.ptr z 0)++zl=Eb (Cz K i z)++(D.ptr z 0::zl)/\(Eb K).set i (D.ptr z 0)++zk=Eb (Cz K i z)++(D.ptr z 0::zk)):=by
   rw[hset,Ai,Ai]
   exact Aa ⟨rfl,rfl⟩
  have hlf:Hid ((Eb (Cz K i z)++(D.ptr z 0::zl)).length=cl/\(Eb (Cz K i z)++(D.ptr z 0::zk)).length=ck):=by
   rw[<-hfin.out.1,<-hfin.out.2]
   exact Aa ⟨by rw[Ad,AV,<-Ad];exact hll,by rw[Ad,AV,<-Ad];exact hzk⟩
  unfold MemP.resT
  dsimp only[MemP.cells,MemP.res,List.cons_append,List.nil_append]
  rw[GY]
  clear hM hl hzl hgz hset hgi hrl
  rw[hn]
  generalize (Eb K).drop (i+1)=W1 at *
  generalize hS1:(Eb K).set i (D.ptr z 0)++zl=SL at *
  generalize hS2:(Eb K).set i (D.ptr z 0)++zk=SK at *
  generalize hR1:Eb K++zl=RL at *
  generalize hR2:Eb K++zk=RK at *
  clear hS1 hS2 hR1 hR2
  have hil:i+1<=cl:=by omega
  have hik:i+1<=ck:=by omega
  have hw1:((n:Int)+1 - 1)=n:=by omega
  replace hn:=Aa hn
  replace hi:=Aa hi
  replace hz:=Aa hz
  refine Qin [] func142 results142 ntmps142 ?_
  repeat' (first|refine QV ?_|((with_reducible apply(kr (b:=bm) (kb:=kb) (l:=ml) (c:=cm) (kt:=117)));(focus exact q_v);(focus exact q_v);(focus(repeat(first|exact Vb|apply Va)));(focus kernel_rfl);(focus exact KQ (by kernel_rfl) (hlk.out.live (Ag ..) (λr hr=>Ae _ (Ae _ (Ae _ (Ae _ hr))))) (λe he=>by obtain⟨x,e1,hx⟩:=hle.out e he;exact⟨x,e1,hx.live (Ag ..) (λr hr=>Ae _ (Ae _ (Ae _ (Ae _ hr))))⟩));rw[hlkd])|((with_reducible apply(GE (id:=3) [(o,pre++D.mp bm::D.ar gl 0 (n+1) cl::D.ar gk 0 (n+1) ck::post),(gl,RL),(gk,RK)] [0,1,2,3,4,5,6,7,8,10,11,12,13,14,15,16,17,18,19,20,21,22,23,24] 25 [9,26,27]));(iterate 3 (focus kernel_rfl));(iterate 2 (focus(simp only[Gy,AI,AM,BB,Bq];exact rfl)));(focus exact q_k);intro hne;(try simp only[nes,ne1,and_assoc]at hne);repeat(have hq:=hne.1;replace hne:=hne.2))|((with_reducible refine Exists.intro [] ?_);(with_reducible refine And.intro ?_ ?_);(focus exact q_k))|((with_reducible refine And.intro ?_ ?_);(focus exact q_k))|((with_reducible apply(Da (id:=4) [(o,pre++D.mp bm::D.ar gl 0 (n+1) cl::D.ar gk 0 (n+1) ck::post),(gk,SK)]));(iterate 3 (focus kernel_rfl));(focus exact q_k);intro hne;(try simp only[nes,ne1,and_assoc]at hne);repeat(have hq:=hne.1;replace hne:=hne.2))|((with_reducible refine And.intro ?_ ?_);(focus exact q_k))|((with_reducible apply(bq (b:=bm) (kb:=z) (l:=ml) (c:=cm) (n:=i) (kt:=117)));(focus exact q_v);(focus exact q_v);(focus exact q_v);(focus(repeat(first|exact Hn|apply Hm)));(focus kernel_rfl);(focus exact KQ (by kernel_rfl) (hlz.out.live (Ag ..) (λr hr=>Ae _ (Ae _ (Ae _ (Ae _ hr))))) (λe he=>by obtain⟨x,e1,hx⟩:=hle.out e he;exact⟨x,e1,hx.live (Ag ..) (λr hr=>Ae _ (Ae _ (Ae _ (Ae _ hr))))⟩)))|((with_reducible apply(kv (b:=bm) (kb:=kb) (l:=(ET ml cm (.p z) i).1) (c:=(ET ml cm (.p z) i).2) (kt:=117)));(focus exact q_v);(focus exact q_v);(focus(repeat(first|exact Hn|apply Hm)));(focus kernel_rfl);(focus exact KQ (by kernel_rfl) (hlk.out.live (Ag ..) (λr hr=>Ae _ (Ae _ (Ae _ (Ae _ hr))))) (λe he=>by obtain⟨x,e1,hx⟩:=hle2.out e he;exact⟨x,e1,hx.live (Ag ..) (λr hr=>Ae _ (Ae _ (Ae _ (Ae _ hr))))⟩)))|((with_reducible apply(GE (id:=6) [(o,pre++D.mp bm::D.ar gl 0 (n+1) cl::D.ar gk 0 (n+1) ck::post)] [0,2,3,4,5,6,7,8,9,10,11,14,15] 16 [1,12,13,17,18,19]));(iterate 3 (focus kernel_rfl));(iterate 2 (focus(simp only[Gy,AI,AM,BB,Bq];exact rfl)));(focus exact q_k);intro hne;(try simp only[nes,ne1,and_assoc]at hne);repeat(have hq:=hne.1;replace hne:=hne.2))|((with_reducible refine Exists.intro [] ?_);(with_reducible refine And.intro ?_ ?_);(focus exact q_k))|((with_reducible refine And.intro ?_ ?_);(focus exact q_k))|refine QY ?_|refine QB ?_;intro b|with_reducible refine QZ ?_<;>(try constructor)<;>intro hb<;>try intro hb1|fail)
  refine Bf (by simp) q_y (Aj _) (LE.refl _) ⟨.at_ bm (IV (ET ml cm (.p z) i).1 (.p kb)) (ET ml cm (.p z) i).2 gl cl (D.ptr z 0::zl) gk ck (D.ptr z 0::zk),⟨hMs.out,?_,?_,?_⟩,rfl,?_⟩
  . rw[CG];exact hlf.out.1
  . rw[GY];exact hlf.out.2
  . unfold Eb;rw[Ab,Ab,CG]
  . rw[GY]
    dsimp only[MemP.cells,MemP.res,List.cons_append,List.nil_append]
    rw[<-hfin.out.1,<-hfin.out.2]
    (repeat(first|exact Ar _|refine Dl (by repeat(first|exact DA|apply CV)) ?_))
end
section
attribute [local push_cast] Br Bl BV Nat.mul_one Int.sub_zero List.map_nil beq_self_eq_true bne_self_eq_false List.head?_cons Bool.not_true Bool.not_false Nat.zero_add List.append_assoc
structure RevI {α:Type}(L:List α)(i:Nat)(R:List α):Prop where
 len:R.length=L.length
 at_:∀t,t<L.length->R[t]?=if t<i\/L.length - 1 - i<t then L[L.length - 1 - t]? else L[t]?
theorem RevI.zero{α:Type}{L:List α}:RevI L 0 L:=⟨rfl,λt ht=>by rw[if_neg];omega⟩
theorem RevI.next{α:Type}{L R:List α}{i:Nat}(h:RevI L i R){a b:α}(hij:i<L.length - 1 - i)(ha:R[i]?=some a)(hb:R[L.length - 1 - i]?=some b):RevI L (i+1) ((R.set i b).set (L.length - 1 - i) a):=by
 refine⟨by rw[AV,AV,h.len],λt ht=>?_⟩
 have h1:=h.at_ i q_o
 have h2:=h.at_ (L.length - 1 - i) q_o
 rw[if_neg q_o]at h1 h2
 have hl:=h.len
 by_cases e1:t=L.length - 1 - i
 . subst e1
   rw[BA (by rw[AV];omega),if_pos q_o,<-ha,h1]
   congr 1
   omega
 . rw[DX (λe=>e1 e.symm)]
   by_cases e2:t=i
   . subst e2
     rw[BA q_o,if_pos q_o,<-hb,h2]
   . rw[DX (λe=>e2 e.symm),h.at_ t ht]
     congr 1
     refine propext ⟨λh=>by omega,λh=>by omega⟩
theorem RevI.done{α:Type}{L R:List α}{i:Nat}(h:RevI L i R)(hij:¬i<L.length - 1 - i):R=L.reverse:=by
 refine Cx λt=>?_
 by_cases ht:t<L.length
 . rw[h.at_ t ht,od ht]
   split
   . rfl
   . have:t=L.length - 1 - t:=by omega
     rw[<-this]
 . rw[Bz (by rw[h.len];omega),Bz (by rw[Lq];omega)]
theorem ff(g cap:Nat)(L:List Int)(zs:List D)(hc:(L.map D.i++zs).length=cap)(hn:L.length<=1000000)(st:St):TrF prog 143 [.ar g 0 L.length cap] (.box g 3 (L.map D.i++zs)::st) λd st'=>d=.tup []/\st'=.box g 3 (L.reverse.map D.i++zs)::st:=by
 have hlc:L.length<=cap:=by rw[Ad,Ab]at hc;omega
 have hcz:L.length+zs.length=cap:=by rw[Ad,Ab]at hc;exact hc
 refine Qin [] func143 results143 ntmps143 ?_
 repeat' (first|refine QX ?_|refine QB ?_;intro b|with_reducible refine QZ ?_<;>(try constructor)<;>intro hb<;>try intro hb1|fail)
 refine Bs (ι:=Nat) (λi A st'=>∃(R:List Int) (z:Int),RevI L i R/\A.df=[]/\A.e 0=.ar g 0 L.length cap/\A.e 2=.i i/\A.e 3=.i z/\z+1+i=L.length/\st'=.box g 3 (R.map D.i++zs)::st) (λi=>L.length - i) 0 ⟨L,(L.length:Int) - 1,RevI.zero,Qf,Qf,Qf,Qf,by omega,rfl⟩ ?_
 rintro i A st' ⟨R,z,hR,hdf,e0,e2,e3,hz,rfl⟩
 by_cases hlt:(i:Int)<z
 . obtain⟨j,hj⟩:∃j,j=L.length - 1 - i:=⟨_,rfl⟩
   obtain rfl:z=(j:Int):=by omega
   have hjl:j<L.length:=by omega
   have hil:i<L.length:=by omega
   have hRl:=hR.len
   have hRm:(R.map D.i).length=L.length:=by rw[Ab,hRl]
   obtain⟨a,ha⟩:=gEx (l:=R) (i:=i) q_o
   obtain⟨b,hb⟩:=gEx (l:=R) (i:=j) q_o
   have hRn:=Aa (hR.next q_o ha (by rw[<-hj];exact hb))
   have d1:=Ow (R:=R.map D.i) (zs:=zs) (d:=D.i a) (by rw[Aq,ha];rfl)
   have d2:=Ow (R:=R.map D.i) (zs:=zs) (d:=D.i b) (by rw[Aq,hb];rfl)
   have s1:=KD (R:=R.map D.i) (zs:=zs) (d:=D.i b) (i:=i) q_o
   have s2:=KD (R:=(R.map D.i).set i (D.i b)) (zs:=zs) (d:=D.i a) (i:=j) (by rw[AV];omega)
   have s3:((R.map D.i).set i (D.i b)).set j (D.i a)=((R.set i b).set j a).map D.i:=by rw[Ff,Ff]
   rw[s3]at s2
   have hi1:i+1<=cap:=by omega
   have hj1:j+1<=cap:=by omega
   have hlr:(R.map D.i++zs).length=cap:=by rw[Ad,hRm];exact hcz
   have hlr2:((R.map D.i).set i (D.i b)++zs).length=cap:=by rw[Ad,AV,hRm];exact hcz
   rw[<-hj]at hRn
   have hj2:Hid ((j:Int)+1+i=L.length):=hz
   clear hj hz hR ha hb s3
   generalize hR2:(R.set i b).set j a=R2 at *
   generalize (R.map D.i).drop (i+1)++zs=W1 at *
   generalize (R.map D.i).drop (j+1)++zs=W2 at *
   generalize (R.map D.i).set i (D.i b)++zs=RR1 at *
   generalize hRR:R.map D.i++zs=RR at *
   repeat' (first|refine QV ?_|((with_reducible apply(GE (id:=3) [(g,RR)] [0,1,4,5,6,7,8,9,10,11,12] 13 [2,3,14,15]));(iterate 3 (focus kernel_rfl));(iterate 2 (focus(simp only[Gy,AI,AM,BB,Bq];exact rfl)));(focus exact q_k);intro hne;(try simp only[nes,ne1,and_assoc]at hne);repeat(have hq:=hne.1;replace hne:=hne.2))|((with_reducible refine Exists.intro [] ?_);(with_reducible refine And.intro ?_ ?_);(focus exact q_k))|((with_reducible refine And.intro ?_ ?_);(focus exact q_k))|refine QY ?_|refine QB ?_;intro b|with_reducible refine QZ ?_<;>(try constructor)<;>intro hb<;>try intro hb1|fail)
   refine⟨i+1,.box g 3 (R2.map D.i++zs)::st,q_t,⟨R2,(j:Int) - 1,hRn.out,?_,?_,?_,?_,(by have:=hj2.out;omega),rfl⟩,by omega⟩
   all_goals exact Qf
 . obtain rfl:=hR.done q_o
   clear hR hz
   generalize L.reverse.map D.i++zs=RR at *
   exact WR
end
section
attribute [local push_cast] Br Bl BV V.cells_mk V.cells_len Nat.mul_one Int.sub_zero List.map_nil beq_self_eq_true bne_self_eq_false List.head?_cons Bool.not_true Bool.not_false Nat.zero_add List.append_assoc Kf Kg
attribute [-instance] Ck Cu BO
theorem XL{l:List Fc}{i:Nat}{x:Fc}(zs:List D)(h:l[i]?=some x):List.take 5 (List.drop (i*5) (CR l++zs))=x.cells:=by
 have h1:CR l=CR (l.take i)++(x.cells++CR (l.drop (i+1))):=by
  unfold CR
  rw[<-AL,<-Au,<-CW,<-Bi]
  congr 2
  have:=V.drop_cons h
  rw[<-this,Bv]
 have h2:(CR (l.take i)).length=i*5:=by
  rw[Dz,AQ,KZ (aI (Af.1 h).1)]
 rw[h1,Ai,Ai,<-h2,CN]
 exact Qj rfl
theorem bJ{out:List Fc}{c:Nat}{u:Fc}(zs:List D)(h:c<out.length):List.take (c*5) (CR out++zs)++(u.cells++List.drop (c*5+5) (CR out++zs))=CR (out.set c u)++zs:=by
 obtain⟨z,hz⟩:=gEx h
 have hL:(out.map Fc.cells)[c]?=some z.cells:=by rw[Aq,hz];rfl
 have hs:=GX (o:=0) (sz:=5) (ds:=u.cells) zs (out.map Fc.cells) c (λe he=>by
  obtain⟨x, -,rfl⟩:=Av.1 he
  exact Fc.cells_len x) hL (by rw[Fc.cells_len];omega)
 have h1:DJ z.cells 0 u.cells=u.cells:=by
  unfold DJ
  rw[CX,AM,Bo,Az (by rw[Fc.cells_len,Fc.cells_len];omega),AY]
 rw[h1,<-Ff]at hs
 unfold DJ at hs
 rw[Ed,Fc.cells_len,Ai]at hs
 exact hs
theorem Vy(o : Nat)(ty:TypeId)(pre post:List D)(M:MemP)(K:List Fc)(f z:Fc)(i n:Nat)(hok:M.okF K)(hn:K.length=n+1)(hi:K[i]?=some f)(hz:K[n]?=some z)(hnl:n<=1000000)(st:St) :
 TrF prog 68 [.ptr o pre.length,.i f.id] (.box o ty (pre++(M.cells K.length++post))::(M.resF K++st)) λd st'=>∃M':MemP,M'.okF (Cz K i z)/\d=.tup []/\(Res.box o ty (pre++(M'.cells n++post))::(M'.resF (Cz K i z)++st)).Perm st':=by
 have hW:=LQ pre post
 generalize hpl:pre.length=off at *
 obtain⟨hd0,hd1,hd2,hd3,ht0,ht1,ht2,hl1,hl2,hl3⟩:=hW
 have hin:i<n+1:=by have:=(Af.1 hi).1;omega
 cases M with
|no =>
  obtain⟨hK, -⟩:=hok
  obtain rfl:K=[]:=Eh.1 hK
  cases hi
|at_ bm ml cm gl cl zl gk ck zk =>
  obtain⟨hM,hzl,hzk, -⟩:=hok
  rw[Gx]at hzk
  have hlkd:lkD ml (.i f.id)=.tup [.i i,.b true]:=by
   unfold lkD
   rw[hM.look (k:=.i f.id) (j:=i) (by rw[Aq,hi];rfl)]
  have hMs:=Aa (MRep.swap_map (f:=Pq) cm hM hn hi hz)
  have hle:Hid (∀e∈ml,∃n,e.k=.i n):=λe he=>by
   obtain⟨x,hx,e1⟩:=Av.1 (hM.keys e he)
   exact⟨x.id,e1.symm⟩
  have hle2:Hid (∀e∈(ET ml cm (.i z.id) i).1,∃n,e.k=.i n):=λe he=>by
   rcases RG hM.nd e he with e1|⟨e',h1,h2⟩
   . exact⟨z.id,e1⟩
   . rw[<-h2];exact hle.out e' h1
  have hrl:(HG K).length=n+1:=by unfold HG;rw[Ab,hn]
  have hgz:(HG K)[n]?=some (D.i z.id):=by unfold HG;rw[Aq,hz];rfl
  have hset:(HG K).set i (D.i z.id)=HG (Cz K i z)++[D.i z.id]:=by
   unfold HG
   rw[show(K.map λf=>D.i f.id).set i (D.i z.id)=(K.set i z).map λf=>D.i f.id from Ff.symm,Ms hn hin hz,Bi]
   rfl
  have hsf:CR (K.set i z)=CR (Cz K i z)++[z.cells].flatten:=by rw[Ms hn hin hz,OW]
  have hgi:((HG K).set i (D.i z.id))[i]?=some (D.i z.id):=by
   rw[BA q_o]
  have hdl:=XL zl hz
  have hdk:=OX (zs:=zk) hrl hgz
  have hsl:=bJ (u:=z) zl (show i<K.length by omega)
  have hsk:=KD (zs:=zk) (d:=D.i z.id) (show i<(HG K).length by omega)
  have hdk2:=Ow (zs:=zk) hgi
  have hll:(CR K++zl).length=cl*5:=hzl
  have hcl:n+1<=cl:=by rw[Ad,Dz,hn]at hll;omega
  have hck:n+1<=ck:=by rw[Ad]at hzk;omega
  have hfin:Hid (CR (K.set i z)++zl=CR (Cz K i z)++(z.cells++zl)/\(HG K).set i (D.i z.id)++zk=HG (Cz K i z)++(D.i z.id::zk)):=by
   rw[hset,hsf,Ai,Ai]
   exact Aa ⟨by rw[AL,List.flatten_nil,AY],rfl⟩
  have hlf:Hid ((CR (Cz K i z)++(z.cells++zl)).length=cl*5/\(HG (Cz K i z)++(D.i z.id::zk)).length=ck):=by
   rw[<-hfin.out.1,<-hfin.out.2]
   exact Aa ⟨by rw[Ad,Dz,AV,<-Dz,<-Ad];exact hll,by rw[Ad,AV,<-Ad];exact hzk⟩
  have hdl5:n*5+5<=(CR K++zl).length:=by rw[hll];omega
  have hdi5:i*5+5<=(CR K++zl).length:=by rw[hll];omega
  have hdl6:5<=(List.drop (n*5) (CR K++zl)).length:=by rw[AO];omega
  have hdi6:5<=(List.drop (i*5) (CR K++zl)).length:=by rw[AO];omega
  unfold MemP.resF
  dsimp only[MemP.cells,MemP.res,List.cons_append,List.nil_append]
  rw[Gx]
  clear hM hzl hgz hset hgi hrl hsf
  rw[hn]
  generalize (HG K).drop (i+1)=W1 at *
  rw[show z.cells=[.i z.id,.i z.time,.i z.tmpl,.i z.ver,.sl .shared (z.s.map V.cells)]from rfl]at hdl hsl hfin hlf
  simp only[AI,AM]at hsl
  generalize hS1:CR (K.set i z)++zl=SL at *
  generalize hS2:(HG K).set i (D.i z.id)++zk=SK at *
  generalize hR1:CR K++zl=RL at *
  generalize hR2:HG K++zk=RK at *
  clear hS1 hS2 hR1 hR2
  have hil:i+1<=cl:=by omega
  have hik:i+1<=ck:=by omega
  have hw1:((n:Int)+1 - 1)=n:=by omega
  replace hn:=Aa hn
  replace hi:=Aa hi
  replace hz:=Aa hz
  refine Qin [] func68 results68 ntmps68 ?_
  repeat' (first|refine QV ?_|((with_reducible apply(bz (b:=bm) (kn:=f.id) (l:=ml) (c:=cm) (kt:=3)));(focus exact q_v);(focus exact q_v);(focus(repeat(first|exact Vb|apply Va)));(focus kernel_rfl);(focus exact Hp (by kernel_rfl) hle.out);rw[hlkd])|((with_reducible apply(GE (id:=3) [(o,pre++D.mp bm::D.ar gl 0 (n+1) cl::D.ar gk 0 (n+1) ck::post),(gl,RL),(gk,RK)] [0,1,2,3,4,5,6,7,8,10,11,12,13,14,15,16,17,18,19,20,21,22,23,24] 25 [9,26,27]));(iterate 3 (focus kernel_rfl));(iterate 2 (focus(simp only[Gy,AI,AM,BB,Bq];exact rfl)));(focus exact q_k);intro hne;(try simp only[nes,ne1,and_assoc]at hne);repeat(have hq:=hne.1;replace hne:=hne.2))|((with_reducible refine Exists.intro [] ?_);(with_reducible refine And.intro ?_ ?_);(focus exact q_k))|((with_reducible refine And.intro ?_ ?_);(focus exact q_k))|((with_reducible apply(Da (id:=4) [(o,pre++D.mp bm::D.ar gl 0 (n+1) cl::D.ar gk 0 (n+1) ck::post),(gk,SK)]));(iterate 3 (focus kernel_rfl));(focus exact q_k);intro hne;(try simp only[nes,ne1,and_assoc]at hne);repeat(have hq:=hne.1;replace hne:=hne.2))|((with_reducible refine And.intro ?_ ?_);(focus exact q_k))|((with_reducible apply(br (b:=bm) (kn:=z.id) (l:=ml) (c:=cm) (n:=i) (kt:=3)));(focus exact q_v);(focus exact q_v);(focus exact q_v);(focus(repeat(first|exact Hn|apply Hm)));(focus kernel_rfl);(focus exact Hp (by kernel_rfl) hle.out))|((with_reducible apply(kw (b:=bm) (kn:=f.id) (l:=(ET ml cm (.i z.id) i).1) (c:=(ET ml cm (.i z.id) i).2) (kt:=3)));(focus exact q_v);(focus exact q_v);(focus(repeat(first|exact Hn|apply Hm)));(focus kernel_rfl);(focus exact Hp (by kernel_rfl) hle2.out))|((with_reducible apply(GE (id:=6) [(o,pre++D.mp bm::D.ar gl 0 (n+1) cl::D.ar gk 0 (n+1) ck::post)] [0,2,3,4,5,6,7,8,9,10,11,14,15] 16 [1,12,13,17,18,19]));(iterate 3 (focus kernel_rfl));(iterate 2 (focus(simp only[Gy,AI,AM,BB,Bq];exact rfl)));(focus exact q_k);intro hne;(try simp only[nes,ne1,and_assoc]at hne);repeat(have hq:=hne.1;replace hne:=hne.2))|((with_reducible refine Exists.intro [] ?_);(with_reducible refine And.intro ?_ ?_);(focus exact q_k))|((with_reducible refine And.intro ?_ ?_);(focus exact q_k))|refine QY ?_|refine QB ?_;intro b|with_reducible refine QZ ?_<;>(try constructor)<;>intro hb<;>try intro hb1|fail)
  refine Bf (by simp) q_y (Aj _) (LE.refl _) ⟨.at_ bm (IV (ET ml cm (.i z.id) i).1 (.i f.id)) (ET ml cm (.i z.id) i).2 gl cl (z.cells++zl) gk ck (D.i z.id::zk),⟨hMs.out,hlf.out.1,?_,?_⟩,rfl,?_⟩
  . rw[Gx];exact hlf.out.2
  . rw[Dz,Ab]
  . rw[Gx]
    dsimp only[MemP.cells,MemP.res,List.cons_append,List.nil_append]
    rw[<-hfin.out.2,show z.cells=[.i z.id,.i z.time,.i z.tmpl,.i z.ver,.sl .shared (z.s.map V.cells)]from rfl,<-hfin.out.1]
    (repeat(first|exact Ar _|refine Dl (by repeat(first|exact DA|apply CV)) ?_))
end
section
attribute [local push_cast] Br Bl V.cells_mk V.cells_take V.cells_len Nat.mul_one Int.sub_zero
open V in
theorem TX:∀(N:Nat) (v:V),v.nodes<=N->v.nodes<=1000000000->∀st,TrF prog 84 [.agg v.cells] st λx st'=>x=.agg v.cells/\st'=st
|0,v,h,_=>by have:=v.nodes_pos;omega
|N+1,.mk k n s l,hN,hB=>by
  intro st
  have hll:=IU l
  rw[nodes]at hN hB
  have IH:=Aa λx (hx:x∈l)=>TX N x (by have:=Hd hx;omega) (by have:=Hd hx;omega)
  clear hN
  rw[V.cells_mk]
  refine gW 2 30 func84 ntmps84 ?_
  refine GF 30 4 0 ?_
  repeat' (first|with_reducible refine DR ?_|refine QX ?_|(refine QB ?_;intro b)|refine QP ?_;intro o' ho'|(with_reducible refine QZ ?_<;>(try constructor)<;>intro hb<;>try intro hb1)|fail)
  rename_i b1
  revert b
  intro b2
  refine Bs (ι:=Nat) (λi A st'=>i<=l.length/\A.df=[]/\A.e 1=.ptr b1 0/\A.e 2=.ptr b2 0/\A.e 7=.sl .shared (l.map V.cells)/\A.e 8=.i l.length/\A.e 9=.i i/\∃o',o'≠.shared/\A.e 3=.sl o' ((l.take i).map V.cells)/\∃zs,zs.length=4/\st'=.box b2 30 zs::.box b1 30 [.i k,.i n,.str s,.sl .shared (l.map V.cells)]::.room o' 30 4 ((l.take i).map V.cells).length::st) (λi=>l.length - i) 0 ⟨Ao _,Qf,Qf,Qf,Qf,Qf,Qf,.tight,by simp,Qf,_,rfl,rfl⟩ ?_
  rintro i A st' ⟨hi,hdf,e1,e2,e7,e8,e9,o',ho',e3,zs,hzs,rfl⟩
  by_cases hlt:i<l.length
  . obtain⟨x,hx⟩:=gEx hlt
    have ih:=IH.out x (Ib hx)
    have htk:l.take (i+1)=l.take i++[x]:=by
     rw[List.take_succ,hx];rfl
    have hTi:(l.take i).length=i:=by rw[AQ];omega
    replace htk:=Aa htk
    generalize l.take i=Ti at *
    clear IH
    have hT4:∀a∈Ti.map V.cells,a.length=4:=λa ha=>by
     obtain⟨y, -,rfl⟩:=Av.1 ha
     exact V.cells_len y
    cases x with
    | mk k1 n1 s1 l1 =>
     rw[V.cells_mk]at ih
     replace ih:=Aa ih
     repeat' (first|refine QV ?_|((with_reducible apply(iu ho'));(focus(intro o';repeat(first|exact Hn|apply Hm)));(focus exact hT4);(focus exact CP rfl);(focus(simp only[Ab,An,Cd];omega));(focus(simp only[Ab,An,Cd];omega));intro o' ho')|refine QY ?_|(refine QB ?_;intro b)|refine QP ?_;intro o' ho'|(with_reducible refine QZ ?_<;>(try constructor)<;>intro hb<;>try intro hb1)|fail)
     refine⟨i+1,.box b2 30 zs::.box b1 30 [.i k,.i n,.str s,.sl .shared (l.map V.cells)]::.room o' 30 4 ((l.take (i+1)).map V.cells).length::st,?_,⟨hlt,?_,?_,?_,?_,?_,?_,o',ho',?_,zs,hzs,rfl⟩,?_⟩
     . rw[htk.out];simp only[Bi,Au,BH,V.cells_mk];(repeat(first|exact Aj _|apply List.Sublist.cons))
     . exact Qf
     . exact Qf
     . exact Qf
     . exact Qf
     . exact Qf
     . exact Qf
     . rw[htk.out];simp only[Bi,Au,BH,V.cells_mk];exact Qf
     . omega
  . rw[Bj q_o]at *
    clear IH
    repeat' (first|refine QX ?_|(refine QB ?_;intro b)|refine QP ?_;intro o' ho'|(with_reducible refine QZ ?_<;>(try constructor)<;>intro hb<;>try intro hb1)|fail)
    all_goals exact VP
end
section
attribute [local push_cast] Br Bl V.cells_mk V.cells_take V.cells_len Nat.mul_one Int.sub_zero
def DH (l:List V):List D:=(l.map V.cells).flatten
theorem Gk(l:List V):(DH l).length=l.length*4:=by
 unfold DH
 rw[DQ (sz:=4) λe he=>by
  obtain⟨x, -,rfl⟩:=Av.1 he
  exact V.cells_len x,Ab]
theorem XM{l:List V}{i:Nat}{x:V}(zs:List D)(h:l[i]?=some x):List.take 4 (List.drop (i*4) (DH l++zs))=x.cells:=by
 have h1:DH l=DH (l.take i)++(x.cells++DH (l.drop (i+1))):=by
  unfold DH
  rw[<-AL,<-Au,<-CW,<-Bi]
  congr 2
  have:=V.drop_cons h
  rw[<-this,Bv]
 have h2:(DH (l.take i)).length=i*4:=by
  rw[Gk,AQ,KZ (aI (Af.1 h).1)]
 rw[h1,Ai,DF q_o,<-h2,Hv,AM,Ai,CH (by rw[V.cells_len];exact Ap _),Bj (by rw[V.cells_len];exact Ap _)]
end
section
attribute [local push_cast] Br Bl BV V.cells_mk V.cells_len Nat.mul_one Int.sub_zero List.map_nil beq_self_eq_true bne_self_eq_false List.head?_cons Bool.not_true Bool.not_false Nat.zero_add
theorem Ry(k:Int)(h1:1<=k)(h4:k<=4)(x y:V)(hx:x.Bg)(hy:y.Bg)(st:St):TrF prog 85 [.i k,.agg x.cells,.agg y.cells] st λd st'=>d=.b (Mat.holds k x y)/\st'=st:=by
 have hS:=Mn x y hx hy
 have hC:=Kx x.nodes x y (Ap _) hx hy
 unfold Mat.holds
 generalize x.cmp y=c at *
 clear hx hy
 cases x with
|mk k1 n1 s1 l1 =>
 cases y with
|mk k2 n2 s2 l2 =>
 rw[V.cells_mk,V.cells_mk]at *
 generalize l1.map V.cells=L1 at *
 generalize l2.map V.cells=L2 at *
 dsimp only[Mat.kd]
 replace hS:=Aa hS
 replace hC:=Aa hC
 by_cases e1:k=1
 . subst e1
   rw[if_pos rfl]
   refine Qin [6] func85 results85 ntmps85 ?_
   exact WR
 by_cases e2:k=2
 . subst e2
   rw[if_neg (by decide),if_pos rfl]
   refine Qin [6] func85 results85 ntmps85 ?_
   exact WR
 rw[if_neg e1,if_neg e2]
 by_cases hk:k1=k2
 . rw[beq_iff_eq.2 hk,AH]
   subst hk
   by_cases e3:k=3
   . subst e3
     rw[show(((3:Int) == 3 && decide (c<0)) || ((3:Int) == 4 && decide (0<c)))=decide (c<0) by simp]
     refine Qin [6] func85 results85 ntmps85 ?_
     exact WR
   . obtain rfl:k=4:=by omega
     rw[show(((4:Int) == 3 && decide (c<0)) || ((4:Int) == 4 && decide (0<c)))=decide (0<c) by simp]
     refine Qin [6] func85 results85 ntmps85 ?_
     exact WR
 . rw[beq_eq_false_iff_ne.2 hk,Aw]
   refine Qin [6] func85 results85 ntmps85 ?_
   exact WR
theorem Uz(k:Int)(x y:V)(hx:x.Ok)(st:St):TrF prog 54 [.i k,.agg x.cells,.agg y.cells] st λd st'=>d=.b (Mat.holds k x y)/\st'=st:=by
 have hC:=KG x.nodes x y (Ap _) hx
 unfold Mat.holds
 generalize x.cmp y=c at *
 clear hx
 cases x with
|mk k1 n1 s1 l1 =>
 cases y with
|mk k2 n2 s2 l2 =>
 rw[V.cells_mk,V.cells_mk]at *
 generalize l1.map V.cells=L1 at *
 generalize l2.map V.cells=L2 at *
 dsimp only[Mat.kd]
 replace hC:=Aa hC
 by_cases e1:k=1
 . rw[if_pos e1]
   refine Qin [6] func54 results54 ntmps54 ?_
   exact WR
 by_cases e2:k=2
 . rw[if_neg e1,if_pos e2]
   refine Qin [6] func54 results54 ntmps54 ?_
   exact WR
 rw[if_neg e1,if_neg e2]
 by_cases hk:k1=k2
 . rw[beq_iff_eq.2 hk,AH]
   subst hk
   by_cases e3:k=3
   . by_cases hc:c<0
     . rw[show((k == 3 && decide (c<0)) || (k == 4 && decide (0<c)))=true by simp[e3,hc]]
       refine Qin [6] func54 results54 ntmps54 ?_
       exact WR
     . rw[show((k == 3 && decide (c<0)) || (k == 4 && decide (0<c)))=false by simp[e3,hc]]
       refine Qin [6] func54 results54 ntmps54 ?_
       exact WR
   . by_cases e4:k=4
     . rw[show((k == 3 && decide (c<0)) || (k == 4 && decide (0<c)))=decide (0<c) by simp[e4]]
       refine Qin [6] func54 results54 ntmps54 ?_
       exact WR
     . rw[show((k == 3 && decide (c<0)) || (k == 4 && decide (0<c)))=false by simp[e3,e4]]
       refine Qin [6] func54 results54 ntmps54 ?_
       exact WR
 . rw[beq_eq_false_iff_ne.2 hk,Aw]
   refine Qin [6] func54 results54 ntmps54 ?_
   exact WR
theorem Us{out:List V}{c:Nat}{u:V}(zs:List D)(h:c<out.length):List.take (c*4) (DH out++zs)++u.cells++List.drop (c*4+4) (DH out++zs)=DH (out.set c u)++zs:=by
 obtain⟨z,hz⟩:=gEx h
 have hL:(out.map V.cells)[c]?=some z.cells:=by rw[Aq,hz];rfl
 have hs:=GX (o:=0) (sz:=4) (ds:=u.cells) zs (out.map V.cells) c (λe he=>by
  obtain⟨x, -,rfl⟩:=Av.1 he
  exact V.cells_len x) hL (by rw[V.cells_len];omega)
 have h1:DJ z.cells 0 u.cells=u.cells:=by
  unfold DJ
  rw[CX,AM,Bo,Az (by rw[V.cells_len,V.cells_len];omega),AY]
 rw[h1,<-Ff]at hs
 unfold DJ at hs
 rw[Ed,V.cells_len]at hs
 exact hs
structure FK (f:Fc):Prop where
 v:∀x∈f.s,x.Ok/\x.nodes<=1000
 l:f.s.length<=1000000
namespace Mat
theorem test_bad{t:Ts}{f:Fc}{env:List V}(h:¬(0<=t.slot/\t.slot<f.s.length/\0<=t.var/\t.var<env.length/\1<=t.kind/\t.kind<=9)):test t f env=none:=if_neg h
theorem test_good{t:Ts}{f:Fc}{env:List V}{i v:Nat}{x y:V}(h:t.slot=i)(hv:t.var=v)(hi:f.s[i]?=some x)(hy:env[v]?=some y)(h1:1<=t.kind)(h9:t.kind<=9):test t f env=if t.kind=5 then some (env.set v x)else if t.kind<5 then(if holds t.kind x t.val=true then some env else none)else if holds (t.kind - 5) x y=true then some env else none:=by
 have hl:=(Af.1 hi).1
 have hl2:=(Af.1 hy).1
 unfold test
 rw[if_pos ⟨by omega,by omega,by omega,by omega,h1,h9⟩,h,hv,BR,BR,AW,AW,hi,hy]
 rfl
end Mat
theorem cI(t : Ts)(f:Fc)(env:List V)(ht:t.val.Bg)(hf:FK f)(he:∀v∈env,v.Bg)(hl2:env.length=8)(g cap:Nat)(zs:List D)(hz:(DH env++zs).length=cap*4)(st:St) :
 TrF prog 53 [.agg t.cells,.agg f.cells,.ar g 0 8 cap] (.box g 30 (DH env++zs)::st) λd st'=>d=.b (Mat.test t f env).isSome/\st'=.box g 30 (DH ((Mat.test t f env).getD env)++zs)::st:=by
 by_cases hok:0<=t.slot/\t.slot<f.s.length/\0<=t.var/\t.var<env.length/\1<=t.kind/\t.kind<=9
 . obtain⟨h1,h2,h3,h4,h5,h6⟩:=hok
   obtain⟨i,hi⟩:∃i:Nat,t.slot=i:=⟨t.slot.toNat,by omega⟩
   obtain⟨v,hv⟩:∃v:Nat,t.var=v:=⟨t.var.toNat,by omega⟩
   obtain⟨x,hx⟩:=gEx (l:=f.s) (i:=i) q_o
   obtain⟨y,hy⟩:=gEx (l:=env) (i:=v) q_o
   rw[Mat.test_good hi hv hx hy h5 h6]
   have hxk:=hf.v x (Ah hx)
   have hyk:=he y (Ah hy)
   have hxc:(f.s.map V.cells)[i]?=some x.cells:=by rw[Aq,hx];rfl
   have hml:(f.s.map V.cells).length=f.s.length:=Ab ..
   have hil:=(Af.1 hx).1
   have hvl:v<8:=by omega
   have hrd:=XM zs hy
   have hset:=Us (u:=x) zs (show v<env.length by omega)
   have hdl:4<=(List.drop (v*4) (DH env++zs)).length:=by
    rw[AO,Ad,Gk];omega
   have hcap:v*4+4<=(DH env++zs).length:=by rw[Ad,Gk];omega
   have hC:=TX x.nodes x (Ap _) q_o
   have hH1:=λ(a:1<=t.kind) (b:t.kind<=4)=>Ry t.kind a b x t.val hxk.1.bg ht
   have hH2:=λ(a:1<=t.kind - 5) (b:t.kind - 5<=4)=>Ry (t.kind - 5) a b x y hxk.1.bg hyk
   cases t with
   | mk kind slot var val =>
   dsimp only at *
   subst hi hv
   cases f with
   | mk fid ftime ftm fver fs =>
   dsimp only at *
   unfold Fc.cells
   dsimp only
   generalize Mat.holds kind x val=q1 at *
   generalize Mat.holds (kind - 5) x y=q2 at *
   generalize fs.map V.cells=FS at *
   clear ht hf he hx hy hxk hyk h1 h2 h3 h4 hl2
   cases val with
   | mk k3 n3 s3 l3 =>
   cases x with
   | mk k1 n1 s1 l1 =>
   cases y with
   | mk k2 n2 s2 l2 =>
   rw[Ts.cells_mk]
   simp only[V.cells_mk]at *
   generalize l1.map V.cells=L1 at *
   generalize l2.map V.cells=L2 at *
   generalize l3.map V.cells=L3 at *
   replace hC:=Aa hC
   by_cases e5:kind=5
   . subst e5
     rw[if_pos rfl]
     clear hH1 hH2
     dsimp only[Option.isSome,Option.getD]
     generalize DH (env.set v _)++zs=R2 at *
     generalize DH env++zs=R at *
     refine Qin [6] func53 results53 ntmps53 ?_
     repeat' (first|refine QV ?_|((with_reducible refine QW ?_);intro hne;simp only[nes,ne1,and_assoc]at hne;repeat(have hq:=hne.1;replace hne:=hne.2))|refine QY ?_|refine QB ?_;intro b|with_reducible refine QZ ?_<;>(try constructor)<;>intro hb<;>try intro hb1|fail)
     all_goals exact BZ
   . rw[if_neg e5]
     by_cases e4:kind<5
     . rw[if_pos e4]
       have hH:=Aa (hH1 h5 q_o)
       clear hH1 hH2 hset hrd
       cases q1
       all_goals(
        simp only[if_true,if_false,BN]
        dsimp only[Option.isSome,Option.getD]
        generalize DH env++zs=R at *
        refine Qin [6] func53 results53 ntmps53 ?_
        repeat' (first|refine QV ?_|((with_reducible refine QW ?_);intro hne;simp only[nes,ne1,and_assoc]at hne;repeat(have hq:=hne.1;replace hne:=hne.2))|refine QY ?_|refine QB ?_;intro b|with_reducible refine QZ ?_<;>(try constructor)<;>intro hb<;>try intro hb1|fail)
        all_goals exact BZ)
     . rw[if_neg e4]
       have hH:=Aa (hH2 q_o q_o)
       clear hH1 hH2 hset
       cases q2
       all_goals(
        simp only[if_true,if_false,BN]
        dsimp only[Option.isSome,Option.getD]
        generalize DH env++zs=R at *
        refine Qin [6] func53 results53 ntmps53 ?_
        repeat' (first|refine QV ?_|((with_reducible refine QW ?_);intro hne;simp only[nes,ne1,and_assoc]at hne;repeat(have hq:=hne.1;replace hne:=hne.2))|refine QY ?_|refine QB ?_;intro b|with_reducible refine QZ ?_<;>(try constructor)<;>intro hb<;>try intro hb1|fail)
        all_goals exact BZ)
 . rw[Mat.test_bad hok]
   dsimp only[Option.isSome,Option.getD]
   clear ht hf he hz
   cases t with
   | mk kind slot var val =>
   dsimp only at hok
   rw[hl2]at hok
   cases f with
   | mk fid ftime ftm fver fs =>
   dsimp only at hok
   have hml:(fs.map V.cells).length=fs.length:=Ab ..
   unfold Fc.cells
   dsimp only
   generalize fs.map V.cells=FS at *
   generalize DH env++zs=R
   cases val with
   | mk k3 n3 s3 l3 =>
   rw[Ts.cells_mk]
   generalize l3.map V.cells=L3 at *
   refine Qin [6] func53 results53 ntmps53 ?_
   exact WR
end
section
mutual
inductive Frz (g n cap:Nat)(es:List (List D)):D->D->Prop
|same (d:D):Frz g n cap es d d
|ar:Frz g n cap es (.ar g 0 n cap) (.sl .shared es)
|agg (cs cs':List D) (h:FrzL g n cap es cs cs'):Frz g n cap es (.agg cs) (.agg cs')
|tup (cs cs':List D) (h:FrzL g n cap es cs cs'):Frz g n cap es (.tup cs) (.tup cs')
inductive FrzL (g n cap:Nat)(es:List (List D)):List D->List D->Prop
|nil:FrzL g n cap es [] []
|cons (d d':D) (l l':List D) (h:Frz g n cap es d d') (k:FrzL g n cap es l l'):FrzL g n cap es (d::l) (d'::l')
end
section
variable {g n cap:Nat} {es:List (List D)} {O O':Nat->Nat->Prop} {w:World}
mutual
theorem Frz.rep(he:Ext O w O' w)(hr:∀v,Rep O w v (.ar g 0 n cap)->Rep O' w v (.sl .shared es)):∀{d d':D},Frz g n cap es d d'->∀v,Rep O w v d->Rep O' w v d'
|_,_,.same d,v,h=>h.ext he
|_,_,.ar,v,h=>hr v h
|_,_,.agg cs cs' k,v,h=>by
  cases h with
  | agg us _ h1 h2 =>
   obtain⟨q1,q2⟩:=FrzL.rep he hr k us ⟨h1,h2⟩
   exact .agg us cs' q1 q2
|_,_,.tup cs cs' k,v,h=>by
  cases h with
  | tup us _ h1 h2 =>
   obtain⟨q1,q2⟩:=FrzL.rep he hr k us ⟨h1,h2⟩
   exact .tup us cs' q1 q2
theorem FrzL.rep(he:Ext O w O' w)(hr:∀v,Rep O w v (.ar g 0 n cap)->Rep O' w v (.sl .shared es)):∀{l l':List D},FrzL g n cap es l l'->∀us,RepL O w us l->RepL O' w us l'
|_,_,.nil,us,h=>by
  obtain rfl:=h.inv_nil
  exact .nil
|_,_,.cons d d' l l' h k,us,hh=>by
  obtain⟨u,t,rfl,k1,k2⟩:=hh.inv_cons
  exact .cons (Frz.rep he hr h u k1) (FrzL.rep he hr k t k2)
end
theorem KB{el:TypeId}{zs:List D}{s0:St}{sz:Nat}(hh:Holds (.box g el (es.flatten++zs)::s0) w)(hsz:0<sz)(hes:∀e∈es,e.length=sz)(hn:es.length=n)(v:Value)(hv:Rep (OwnS (.box g el (es.flatten++zs)::s0)) w v (.ar g 0 n cap)):Rep (OwnS s0) w v (.sl .shared es):=by
 have hch:Iq sz n ((es.flatten++zs).drop 0)=es:=by
  rw[Ch,<-hn]
  exact PV zs es hes
 have hr:=cW .shared (.inl rfl) (sz:=sz) hh hv hsz (by rw[Ad,DQ hes,hn];omega) (by intro h;cases h)
 rwa[hch]at hr
end
section
variable {P:Program} {f:FuncId} {args:List D} {st:St}
theorem TrF.rest{ι:Type}{el:TypeId}{sz:Nat}{p:ι->Prop}{es:ι->List (List D)}{g n cap:ι->Nat}{F F':ι->D}{zs:ι->List D}{S:ι->St}(hsz:0<sz)(hes:∀i,p i->(∀e∈es i,e.length=sz)/\(es i).length=n i)(hF:∀i,Frz (g i) (n i) (cap i) (es i) (F i) (F' i))
 (h:TrF P f args st λd st'=>∃i,p i/\d=F i/\st'=.box (g i) el ((es i).flatten++zs i)::S i):TrF P f args st λd st'=>∃i,p i/\d=F' i/\st'=S i:=by
 intro vs w h1 h2
 refine(h vs w h1 h2).mono λ_ w' ⟨v,ev,d,s,k1,k2,k3,i,hi,e1,e2⟩=>?_
 subst e1 e2
 have he:=Ext.drop (st:=.box (g i) el ((es i).flatten++zs i)::S i) (st':=S i) (λ_ h=>Ae _ h) w'
 exact⟨v,ev,_,S i,(hF i).rep he (KB k2 hsz (hes i hi).1 (hes i hi).2) v k1,k2.sub (AK _ _),k3.trans he,i,hi,rfl,rfl⟩
end
section
variable {P:Program} {N:Nat} {r:Option Nat} {A:AA} {st:St} {Q:Exit->AA->St->Prop}
theorem ey{c:Code}{g b n cap sz:Nat}{el ty:TypeId}{es:List (List D)}{zs cs cs':List D}{s:St}(hp:st.Perm (.box g el (es.flatten++zs)::.box b ty cs::s))(hsz:0<sz)(hes:∀e∈es,e.length=sz)(hn:es.length=n)(hF:FrzL g n cap es cs cs')(hl:∀d∈cs',d.leaf=true)(h:Tr P N r c A (.box b ty cs'::s) Q):Tr P N r c A st Q:=by
 refine Bn hp ?_
 intro a w h1 h2
 obtain⟨⟨us,hb,hr⟩,hlc⟩:=h2.2 (.box b ty cs) (Ae _ (Ag ..))
 have he:=Ext.drop (st:=.box g el (es.flatten++zs)::.box b ty cs::s) (st':=.box b ty cs::s) (λ_ h=>Ae _ h) w
 have hO:OwnS (.box b ty cs::s)=OwnS (.box b ty cs'::s):=by
  funext b' off;apply propext
  rw[OwnS.cons_iff,OwnS.cons_iff];exact Nl
 have h3:=h2.sub (AK (.box g el (es.flatten++zs)) (.box b ty cs::s))
 have hr':=hF.rep he (KB h2 hsz hes hn) us.toList hr
 have h4:Holds (.box b ty cs'::s) w:=by
  refine⟨AX.2 ⟨λx hx b' hb'=>(AX.1 h3.1).1 x hx b' hb',(AX.1 h3.1).2⟩,λx hx=>?_⟩
  rcases Ax.1 hx with rfl|hx
  . exact⟨⟨us,hb,by rw[<-hO];exact hr'⟩,hl⟩
  . rw[<-hO];exact h3.2 x (Ae _ hx)
 rw[hO]at he
 exact wpIn_mono (h a w (h1.ext he) h4) λ_ _ _=>PostA.ext he
end
end
section
attribute [local push_cast] Br Bl BV V.cells_mk V.cells_len Nat.mul_one Int.sub_zero List.map_nil beq_self_eq_true bne_self_eq_false List.head?_cons Bool.not_true Bool.not_false Nat.zero_add
theorem JB(l:List V):∀e∈l.map V.cells,e.length=4:=λe he=>by
 obtain⟨x, -,rfl⟩:=Av.1 he
 exact V.cells_len x
theorem Ys(o:Own)(l:List V)(hl0:l≠[])(hl:l.length<=1000000)(st:St):TrF prog 52 [.sl o (l.map V.cells)] st λd st'=>∃g cap zs,(DH l++zs).length=cap*4/\d=.ar g 0 l.length cap/\st'=.box g 30 (DH l++zs)::st:=by
 have hm:(l.map V.cells).length=l.length:=Ab ..
 have hpos:0<(l.map V.cells).length:=by rw[hm];exact Cm.2 hl0
 have hle:(l.map V.cells).length<=1000000:=by rw[hm];exact hl
 have h4:=JB l
 have hne:l.map V.cells≠[]:=λh=>by rw[h]at hpos;exact absurd hpos (Nat.lt_irrefl _)
 unfold DH
 rw[<-hm]
 generalize l.map V.cells=L at *
 clear hl0 hm
 refine Qin [2] func52 results52 ntmps52 ?_
 repeat' (first|refine QV ?_|((with_reducible apply SV);(focus exact q_v);(focus exact q_v);intro bn hbn)|with_reducible refine Hz ?_|with_reducible refine Kj ?_|((with_reducible apply HH);(focus exact hpos);(focus exact h4);(focus omega);(focus omega);intro g' cap' zs' hc hl')|refine QY ?_|(refine QB ?_;intro b)|refine QP ?_;intro o' ho'|(with_reducible refine QZ ?_<;>(try constructor)<;>intro hb<;>try intro hb1)|fail)
 . exact absurd (hbn hb) hne
 . exact Bf (by simp) rfl (Aj _) (LE.of_eq q_v) ⟨g',cap',zs',hl',rfl,rfl⟩
def Lp (R:Option (List V))(st:St)(d:D)(st':St):Prop:=(R=none/\d=.tup [.sl .tight [],.b false]/\st'=st)\/∃e g cap zs,R=some e/\d=.tup [.ar g 0 e.length cap,.b true]/\st'=.box g 30 (DH e++zs)::st
theorem Mat.tests_drop{f:Fc}{L:List Ts}{i:Nat}{t:Ts}{e:List V}(h:L[i]?=some t):Mat.tests f (L.drop i) e=match Mat.test t f e with|some e'=>Mat.tests f (L.drop (i+1)) e'|none=>none:=by
 rw[V.drop_cons h];rfl
theorem Mat.test_len{t:Ts}{f:Fc}{env e:List V}(h:Mat.test t f env=some e):e.length=env.length:=by
 unfold Mat.test at h
 repeat' split at h
 all_goals first|(cases h;done)|(cases h;rfl)|(cases h;exact AV ..)
theorem Mat.test_mem{Q:V->Prop}{t:Ts}{f:Fc}{env e:List V}(h:Mat.test t f env=some e)(hf:∀x∈f.s,Q x)(he:∀x∈env,Q x):∀x∈e,Q x:=by
 unfold Mat.test at h
 split at h
 . rename_i hc
   have hx:Q (f.s.getD t.slot.toNat V.zero):=by
    rw[AW,Al q_o]
    exact hf _ (Hu _)
   repeat' split at h
   all_goals first|(cases h;done)|(cases h;exact he)|skip
   cases h
   intro x hm
   rcases List.mem_or_eq_of_mem_set hm with hm|rfl
   . exact he x hm
   . exact hx
 . cases h
theorem Mat.tests_len{f:Fc}:∀{l:List Ts} {env e:List V},Mat.tests f l env=some e->e.length=env.length
|[],_,_,h=>by cases h;rfl
|t::l,env,e,h=>by
  rw[Mat.tests]at h
  cases ht:Mat.test t f env with
  | none=>rw[ht]at h;cases h
  | some e'=>rw[ht]at h;rw[Mat.tests_len h,Mat.test_len ht]
theorem Mat.tests_mem{Q:V->Prop}{f:Fc}(hf:∀x∈f.s,Q x):∀{l:List Ts} {env e:List V},Mat.tests f l env=some e->(∀x∈env,Q x)->∀x∈e,Q x
|[],_,_,h,he=>by cases h;exact he
|t::l,env,e,h,he=>by
  rw[Mat.tests]at h
  cases ht:Mat.test t f env with
  | none=>rw[ht]at h;cases h
  | some e'=>rw[ht]at h;exact Mat.tests_mem hf h (Mat.test_mem ht hf he)
theorem Mat.pass_len{p:Pt}{f:Fc}{env e:List V}(h:Mat.pass p f env=some e):e.length=8:=by
 unfold Mat.pass at h
 split at h
 . rename_i hc
   rw[Mat.tests_len h,hc.2]
 . cases h
theorem Mat.pass_mem{Q:V->Prop}{p:Pt}{f:Fc}{env e:List V}(h:Mat.pass p f env=some e)(hf:∀x∈f.s,Q x)(he:∀x∈env,Q x):∀x∈e,Q x:=by
 unfold Mat.pass at h
 split at h
 . exact Mat.tests_mem hf h he
 . cases h
theorem Vc(p:Pt)(f:Fc)(env:List V)(hp:∀t∈p.tests,t.val.Bg)(hpl:p.tests.length<=1000000)(hf:FK f)(he:∀v∈env,v.Bg)(hel:env.length<=1000000)(R:Option (List V))(hR:Mat.pass p f env=R)(o:Own)(st:St):TrF prog 17 [.agg p.cells,.agg f.cells,.sl o (env.map V.cells)] st (Lp R st):=by
 have hm:(env.map V.cells).length=env.length:=Ab ..
 have hT:=λ(t:Ts) (e:List V) (ht:t∈p.tests) (he:∀v∈e,v.Bg) (hl:e.length=8) (g cap:Nat) (zs:List D) (hz:(DH e++zs).length=cap*4)=>cI t f e (hp t ht) hf he hl g cap zs hz
 have hN:=λ(t:Ts) (e e':List V) (h:Mat.test t f e=some e') (he:∀v∈e,v.Bg)=>And.intro (Mat.test_len h) (Mat.test_mem h (λx hx=>(hf.v x hx).1.bg) he)
 have hC:=Ys o env
 unfold Mat.pass at hR
 unfold Lp
 by_cases hok:p.tmpl=f.tmpl/\env.length=8
 . rw[if_pos hok]at hR
   obtain⟨hpf,hl8⟩:=hok
   rw[hl8]at hC hm
   have hC2:=hC (λh=>by rw[h]at hl8;cases hl8) q_o
   clear hC
   obtain⟨zs0,hzs0⟩:∃zs,(DH env++zs).length=8*4:=⟨[],by rw[AY,Gk,hl8]⟩
   have hE:Hid (∀st:St,∃(d:D) (st':St) (g cap:Nat) (zs:List D),(DH env++zs).length=cap*4/\d=.ar g 0 8 cap/\st'=.box g 30 (DH env++zs)::st):=λst=>⟨_,_,0,8,zs0,hzs0,rfl,rfl⟩
   cases p with
   | mk tmpl neg tests =>
   have HD:Hid (∃L,L=tests/\Mat.tests f (L.drop 0) env=R):=⟨_,rfl,hR⟩
   have hpm:(tests.map Ts.cells).length=tests.length:=Ab ..
   have hpc:=hMp Ts.cells tests
   have hT2:=Aa hT
   have hN2:=Aa hN
   have he2:=Aa he
   clear hT hN he hp hR hzs0 hf
   unfold Pt.cells
   dsimp only at *
   have hfc:f.cells=[.i f.id,.i f.time,.i f.tmpl,.i f.ver,.sl .shared (f.s.map V.cells)]:=rfl
   have hT3:Hid (∀(t:Ts) (e:List V),t∈tests->(∀v∈e,v.Bg)->e.length=8->∀(g cap:Nat) (zs:List D),(DH e++zs).length=cap*4->∀st,TrF prog 53 [.agg t.cells,.agg [.i f.id,.i f.time,.i f.tmpl,.i f.ver,.sl .shared (f.s.map V.cells)],.ar g 0 8 cap] (.box g 30 (DH e++zs)::st) λd st'=>d=.b (Mat.test t f e).isSome/\st'=.box g 30 (DH ((Mat.test t f e).getD e)++zs)::st):=by rw[<-hfc];exact hT2.out
   rw[hfc]
   clear hT2 hfc
   rw[hpf]
   clear hpf
   generalize f.id=f0 at *
   generalize f.time=f1 at *
   generalize f.tmpl=f2 at *
   generalize f.ver=f3 at *
   generalize f.s.map V.cells=FS at *
   generalize tests.map Ts.cells=TS at *
   replace hC2:=Aa hC2
   generalize hEC:env.map V.cells=EC at *
   refine Qin [6,7] func17 results17 ntmps17 ?_
   repeat' (first|refine QX ?_|(refine QB ?_;intro b)|refine QP ?_;intro o' ho'|(with_reducible refine QZ ?_<;>(try constructor)<;>intro hb<;>try intro hb1)|((with_reducible apply(DL call52));(focus exact Ar _);(focus exact hC2.out _);(focus exact LEL.refl _);(focus exact hE.out _);(rintro d st' ⟨g,cap,zs,hz,rfl,rfl⟩))|fail)
   refine Bs (ι:=Nat) (λi A st'=>i<=tests.length/\A.df=[]/\A.e 4=.ip [.i f0,.i f1,.i f2,.i f3,.sl .shared FS]/\A.e 8=.ar g 0 8 cap/\A.e 24=.sl .shared TS/\A.e 25=.i tests.length/\A.e 26=.i i/\∃e:List V,Hid (Mat.tests f (tests.drop i) e=R)/\Hid (e.length=8)/\Hid (∀v∈e,v.Bg)/\(DH e++zs).length=cap*4/\st'=.box g 30 (DH e++zs)::st) (λi=>tests.length - i) 0 ⟨Ao _,Qf,Qf,Qf,Qf,Qf,Qf,env,?_,hl8,he2.out,hz,rfl⟩ ?_
   . obtain⟨L,rfl,h⟩:=HD.out
     exact h
   rintro i A st' ⟨hi,hdf,e4,e8,e24,e25,e26,e,HT,hel8,heB,hz',rfl⟩
   clear HD hC2 hE hz
   by_cases hlt:i<tests.length
   . obtain⟨t,ht⟩:=gEx hlt
     have htc:=hpc.out i t ht
     have hTT:=hT3.out t e (Ah ht) heB.out hel8.out g cap zs hz'
     have HE:=HT.out
     rw[Mat.tests_drop ht]at HE
     have hNN:=hN2.out t e
     clear HT hT3 hN2 hpc ht
     cases hq:Mat.test t f e with
     | none =>
      rw[hq]at HE hTT
      dsimp only[Option.isSome,Option.getD]at hTT HE
      subst HE
      clear hNN hq
      cases t with
      | mk kind slot var val =>
      cases val with
      | mk k n s l =>
      rw[Ts.cells_mk]at *
      generalize l.map V.cells=VL at *
      generalize DH e++zs=RR at *
      replace hTT:=Aa hTT
      repeat' (first|refine QX ?_|(refine QB ?_;intro b)|refine QP ?_;intro o' ho'|(with_reducible refine QZ ?_<;>(try constructor)<;>intro hb<;>try intro hb1)|fail)
      all_goals exact Bf (by simp) q_y q_t (LE.of_eq q_v) (.inl ⟨rfl,rfl,rfl⟩)
     | some e' =>
      rw[hq]at HE hTT
      dsimp only[Option.isSome,Option.getD]at hTT HE
      obtain⟨q1,q2⟩:=hNN e' hq heB.out
      have hz2:(DH e'++zs).length=cap*4:=by
       rw[Ad,Gk,q1,<-Gk,<-Ad];exact hz'
      have hl2:Hid (e'.length=8):=q1.trans hel8.out
      replace q2:=Aa q2
      replace HE:=Aa HE
      clear hNN hq q1 heB hel8
      cases t with
      | mk kind slot var val =>
      cases val with
      | mk k n s l =>
      rw[Ts.cells_mk]at *
      generalize l.map V.cells=VL at *
      generalize hR2:DH e'++zs=RR2 at *
      generalize DH e++zs=RR at *
      replace hTT:=Aa hTT
      repeat' (first|refine QX ?_|(refine QB ?_;intro b)|refine QP ?_;intro o' ho'|(with_reducible refine QZ ?_<;>(try constructor)<;>intro hb<;>try intro hb1)|fail)
      refine⟨i+1,.box g 30 RR2::st,q_t,⟨hlt,?_,?_,?_,?_,?_,?_,e',HE,hl2,q2,by rw[hR2];exact hz2,by rw[hR2]⟩,by omega⟩
      all_goals exact Qf
   . have HE:=HT.out
     rw[Az q_o,Mat.tests]at HE
     subst HE
     clear HT hT3 hN2 hpc
     generalize hR2:DH e++zs=RR at *
     repeat' (first|refine QX ?_|(refine QB ?_;intro b)|refine QP ?_;intro o' ho'|(with_reducible refine QZ ?_<;>(try constructor)<;>intro hb<;>try intro hb1)|fail)
     all_goals exact Bf (by simp) q_y (Aj _) (LE.refl _) (.inr ⟨e,g,cap,zs,rfl,by rw[hel8.out];(try simp(disch:=omega) only[push_cast,simprocAttr, *]);(try exact rfl);done,by rw[hR2]⟩)
 . rw[if_neg hok]at hR
   subst hR
   clear hT hN hC hp hf he
   have hmm:(p.tests.map Ts.cells).length=p.tests.length:=Ab ..
   unfold Pt.cells Fc.cells
   generalize p.tests.map Ts.cells=TS at *
   generalize f.s.map V.cells=FS at *
   generalize env.map V.cells=EC at *
   generalize p.tmpl=a at *
   generalize f.tmpl=b at *
   generalize env.length=n at *
   by_cases hab:a=b
   . have hn:¬(n:Int)=8:=λh=>hok ⟨hab,by omega⟩
     refine Qin [6,7] func17 results17 ntmps17 ?_
     repeat' (first|refine QX ?_|(refine QB ?_;intro b)|refine QP ?_;intro o' ho'|(with_reducible refine QZ ?_<;>(try constructor)<;>intro hb<;>try intro hb1)|fail)
     all_goals exact Bf (by simp) q_y q_t (LE.of_eq q_v) (.inl ⟨rfl,rfl,rfl⟩)
   . refine Qin [6,7] func17 results17 ntmps17 ?_
     repeat' (first|refine QX ?_|(refine QB ?_;intro b)|refine QP ?_;intro o' ho'|(with_reducible refine QZ ?_<;>(try constructor)<;>intro hb<;>try intro hb1)|fail)
     all_goals exact Bf (by simp) q_y q_t (LE.of_eq q_v) (.inl ⟨rfl,rfl,rfl⟩)
section
set_option maxHeartbeats 16000000
theorem Qr(p:Pt)(f:Fc)(env:List V)(hpl:p.tests.length<=1000000)(hf:FK f)(hel:env.length<=1000000)(R:Option (List V))(hR:Mat.pass p f env=R)(o:Own)(st:St):TrF prog 18 [.agg p.cells,.agg f.cells,.sl o (env.map V.cells)] st (Lp R st):=by
 have hm:(env.map V.cells).length=env.length:=Ab ..
 have hH:=λ(k:Int) (x y:V) (hx:x∈f.s)=>Uz k x y (hf.v x hx).1
 have hfl:=hf.l
 have h4:=JB env
 have hflat:(env.map V.cells).flatten=DH env:=rfl
 unfold Mat.pass at hR
 unfold Lp
 by_cases hok:p.tmpl=f.tmpl/\env.length=8
 . rw[if_pos hok]at hR
   obtain⟨hpf,hl8⟩:=hok
   rw[hl8]at hm
   have hfm:(f.s.map V.cells).length=f.s.length:=Ab ..
   have hfx:=hMp V.cells f.s
   cases p with
   | mk tmpl neg tests =>
   have HD:Hid (∃L,L=tests/\Mat.tests f (L.drop 0) env=R):=⟨_,rfl,hR⟩
   have hpm:(tests.map Ts.cells).length=tests.length:=Ab ..
   have hpc:=hMp Ts.cells tests
   have hH2:=Aa hH
   clear hH hR hf
   unfold Pt.cells
   dsimp only at *
   rw[show f.cells=[.i f.id,.i f.time,.i f.tmpl,.i f.ver,.sl .shared (f.s.map V.cells)]from rfl,hpf]
   clear hpf
   generalize f.id=f0 at *
   generalize f.time=f1 at *
   generalize f.tmpl=f2 at *
   generalize f.ver=f3 at *
   generalize f.s.map V.cells=FS at *
   generalize tests.map Ts.cells=TS at *
   generalize env.map V.cells=EC at *
   refine Qin [6,7] func18 results18 ntmps18 ?_
   repeat' (first|refine QV ?_|with_reducible refine Hz ?_|with_reducible refine Kj ?_|((with_reducible apply HH);(focus omega);(focus exact h4);(focus omega);(focus omega);intro g cap zs hc hz)|refine QY ?_|(refine QB ?_;intro b)|refine QP ?_;intro o' ho'|(with_reducible refine QZ ?_<;>(try constructor)<;>intro hb<;>try intro hb1)|fail)
   rw[hflat]at *
   refine Bs (ι:=Nat) (λi A st'=>i<=tests.length/\A.df=[]/\A.e 3=.ip [.i f2,.b neg,.sl .shared TS]/\A.e 4=.ip [.i f0,.i f1,.i f2,.i f3,.sl .shared FS]/\A.e 8=.ar g 0 8 cap/\A.e 9=.i i/\∃e:List V,Hid (Mat.tests f (tests.drop i) e=R)/\e.length=8/\(DH e++zs).length=cap*4/\st'=.box g 30 (DH e++zs)::st) (λi=>tests.length - i) 0 ⟨Ao _,Qf,Qf,Qf,Qf,Qf,env,?_,hl8,hz,by rw[hflat]⟩ ?_
   . obtain⟨L,rfl,h⟩:=HD.out
     exact h
   rintro i A st' ⟨hi,hdf,e3,e4,e8,e9,e,HT,hel8,hz',rfl⟩
   clear HD hz h4 hflat hl8
   by_cases hlt:i<tests.length
   . obtain⟨t,ht⟩:=gEx hlt
     have htc:=hpc.out i t ht
     have HE:=HT.out
     rw[Mat.tests_drop ht]at HE
     clear HT hpc ht
     by_cases hok:0<=t.slot/\t.slot<f.s.length/\0<=t.var/\t.var<e.length/\1<=t.kind/\t.kind<=9
     . obtain⟨h1,h2,h3,h4,h5,h6⟩:=hok
       obtain⟨si,hsi⟩:∃i:Nat,t.slot=i:=⟨t.slot.toNat,by omega⟩
       obtain⟨v,hv⟩:∃v:Nat,t.var=v:=⟨t.var.toNat,by omega⟩
       obtain⟨x,hx⟩:=gEx (l:=f.s) (i:=si) q_o
       obtain⟨y,hy⟩:=gEx (l:=e) (i:=v) q_o
       rw[Mat.test_good hsi hv hx hy h5 h6]at HE
       have hxc:=hfx.out si x hx
       have hil:=(Af.1 hx).1
       have hvl:v<8:=by omega
       have hrd:=XM zs hy
       have hset:=Us (u:=x) zs (show v<e.length by omega)
       have hdl:4<=(List.drop (v*4) (DH e++zs)).length:=by
        rw[AO,Ad,Gk];omega
       have hcap:v*4+4<=(DH e++zs).length:=by rw[Ad,Gk];omega
       have hz2:(DH (e.set v x)++zs).length=cap*4:=by
        rw[Ad,Gk,AV,<-Gk,<-Ad];exact hz'
       have hl2:(e.set v x).length=8:=by rw[AV];exact hel8
       have hH3:=hH2.out t.kind x t.val (Ah hx)
       have hH4:=hH2.out (t.kind - 5) x y (Ah hx)
       clear hH2 hfx hx hy h1 h2 h3 h4
       cases t with
       | mk kind slot var val =>
       dsimp only at *
       subst hsi hv
       generalize Mat.holds kind x val=q1 at *
       generalize Mat.holds (kind - 5) x y=q2 at *
       generalize e.set v x=e' at *
       cases val with
       | mk k3 n3 s3 l3 =>
       cases x with
       | mk k1 n1 s1 l1 =>
       cases y with
       | mk k2 n2 s2 l2 =>
       rw[Ts.cells_mk]at *
       simp only[V.cells_mk]at *
       generalize l1.map V.cells=L1 at *
       generalize l2.map V.cells=L2 at *
       generalize l3.map V.cells=L3 at *
       by_cases e5:kind=5
       . subst e5
         rw[if_pos rfl]at HE
         dsimp only at HE
         replace HE:=Aa HE
         clear hH3 hH4
         generalize hR2:DH e'++zs=R2 at *
         generalize DH e++zs=RR at *
         repeat' (first|with_reducible refine DR ?_|refine QX ?_|(refine QB ?_;intro b)|refine QP ?_;intro o' ho'|(with_reducible refine QZ ?_<;>(try constructor)<;>intro hb<;>try intro hb1)|fail)
         refine⟨i+1,.box g 30 R2::st,q_t,⟨hlt,?_,?_,?_,?_,?_,e',HE,hl2,by rw[hR2];exact hz2,by rw[hR2]⟩,by omega⟩
         all_goals exact Qf
       . rw[if_neg e5]at HE
         clear hset hz2 hl2
         by_cases e4':kind<5
         . rw[if_pos e4']at HE
           replace hH3:=Aa hH3
           clear hH4 hrd
           cases q1 with
           | false =>
            rw[if_neg AJ]at HE
            dsimp only at HE
            subst HE
            generalize DH e++zs=RR at *
            repeat' (first|refine QV ?_|with_reducible refine DR ?_|((with_reducible refine QW ?_);intro hne;simp only[nes,ne1,and_assoc]at hne;repeat(have hq:=hne.1;replace hne:=hne.2))|refine QY ?_|(refine QB ?_;intro b)|refine QP ?_;intro o' ho'|(with_reducible refine QZ ?_<;>(try constructor)<;>intro hb<;>try intro hb1)|refine Qc call54 ((hH3.out _)) ?_|fail)
            all_goals exact Bf (by simp) q_y q_t (LE.of_eq q_v) (.inl ⟨rfl,rfl,rfl⟩)
           | true =>
            rw[if_pos rfl]at HE
            dsimp only at HE
            replace HE:=Aa HE
            generalize hR2:DH e++zs=RR at *
            repeat' (first|refine QV ?_|with_reducible refine DR ?_|((with_reducible refine QW ?_);intro hne;simp only[nes,ne1,and_assoc]at hne;repeat(have hq:=hne.1;replace hne:=hne.2))|refine QY ?_|(refine QB ?_;intro b)|refine QP ?_;intro o' ho'|(with_reducible refine QZ ?_<;>(try constructor)<;>intro hb<;>try intro hb1)|refine Qc call54 ((hH3.out _)) ?_|fail)
            refine⟨i+1,.box g 30 RR::st,q_t,⟨hlt,?_,?_,?_,?_,?_,e,HE,hel8,by rw[hR2];exact hz',by rw[hR2]⟩,by omega⟩
            all_goals exact Qf
         . rw[if_neg e4']at HE
           replace hH4:=Aa hH4
           clear hH3
           cases q2 with
           | false =>
            rw[if_neg AJ]at HE
            dsimp only at HE
            subst HE
            generalize DH e++zs=RR at *
            repeat' (first|refine QV ?_|with_reducible refine DR ?_|((with_reducible refine QW ?_);intro hne;simp only[nes,ne1,and_assoc]at hne;repeat(have hq:=hne.1;replace hne:=hne.2))|refine QY ?_|(refine QB ?_;intro b)|refine QP ?_;intro o' ho'|(with_reducible refine QZ ?_<;>(try constructor)<;>intro hb<;>try intro hb1)|refine Qc call54 ((hH4.out _)) ?_|fail)
            all_goals exact Bf (by simp) q_y q_t (LE.of_eq q_v) (.inl ⟨rfl,rfl,rfl⟩)
           | true =>
            rw[if_pos rfl]at HE
            dsimp only at HE
            replace HE:=Aa HE
            generalize hR2:DH e++zs=RR at *
            repeat' (first|refine QV ?_|with_reducible refine DR ?_|((with_reducible refine QW ?_);intro hne;simp only[nes,ne1,and_assoc]at hne;repeat(have hq:=hne.1;replace hne:=hne.2))|refine QY ?_|(refine QB ?_;intro b)|refine QP ?_;intro o' ho'|(with_reducible refine QZ ?_<;>(try constructor)<;>intro hb<;>try intro hb1)|refine Qc call54 ((hH4.out _)) ?_|fail)
            refine⟨i+1,.box g 30 RR::st,q_t,⟨hlt,?_,?_,?_,?_,?_,e,HE,hel8,by rw[hR2];exact hz',by rw[hR2]⟩,by omega⟩
            all_goals exact Qf
     . rw[Mat.test_bad hok]at HE
       dsimp only at HE
       subst HE
       clear hH2 hfx
       rw[hel8]at hok
       cases t with
       | mk kind slot var val =>
       cases val with
       | mk k3 n3 s3 l3 =>
       dsimp only at hok
       rw[Ts.cells_mk]at *
       generalize l3.map V.cells=L3 at *
       generalize DH e++zs=RR at *
       repeat' (first|with_reducible refine DR ?_|refine QX ?_|(refine QB ?_;intro b)|refine QP ?_;intro o' ho'|(with_reducible refine QZ ?_<;>(try constructor)<;>intro hb<;>try intro hb1)|fail)
       all_goals exact Bf (by simp) q_y q_t (LE.of_eq q_v) (.inl ⟨rfl,rfl,rfl⟩)
   . have HE:=HT.out
     rw[Az q_o,Mat.tests]at HE
     subst HE
     clear HT hH2 hpc hfx
     generalize hR2:DH e++zs=RR at *
     repeat' (first|refine QX ?_|(refine QB ?_;intro b)|refine QP ?_;intro o' ho'|(with_reducible refine QZ ?_<;>(try constructor)<;>intro hb<;>try intro hb1)|fail)
     all_goals exact Bf (by simp) q_y (Aj _) (LE.refl _) (.inr ⟨e,g,cap,zs,rfl,by rw[hel8];(try simp(disch:=omega) only[push_cast,simprocAttr, *]);(try exact rfl);done,by rw[hR2]⟩)
 . rw[if_neg hok]at hR
   subst hR
   clear hH hf h4 hflat
   have hmm:(p.tests.map Ts.cells).length=p.tests.length:=Ab ..
   unfold Pt.cells Fc.cells
   generalize p.tests.map Ts.cells=TS at *
   generalize f.s.map V.cells=FS at *
   generalize env.map V.cells=EC at *
   generalize p.tmpl=a at *
   generalize f.tmpl=b at *
   generalize env.length=n at *
   by_cases hab:a=b
   . have hn:¬(n:Int)=8:=λh=>hok ⟨hab,by omega⟩
     refine Qin [6,7] func18 results18 ntmps18 ?_
     repeat' (first|refine QX ?_|(refine QB ?_;intro b)|refine QP ?_;intro o' ho'|(with_reducible refine QZ ?_<;>(try constructor)<;>intro hb<;>try intro hb1)|fail)
     all_goals exact Bf (by simp) q_y q_t (LE.of_eq q_v) (.inl ⟨rfl,rfl,rfl⟩)
   . have hab2:¬b=a:=λh=>hab h.symm
     refine Qin [6,7] func18 results18 ntmps18 ?_
     repeat' (first|refine QX ?_|(refine QB ?_;intro b)|refine QP ?_;intro o' ho'|(with_reducible refine QZ ?_<;>(try constructor)<;>intro hb<;>try intro hb1)|fail)
     all_goals exact Bf (by simp) q_y q_t (LE.of_eq q_v) (.inl ⟨rfl,rfl,rfl⟩)
def Gl:Option (List V)->D
|some e=>.tup [.sl .shared (e.map V.cells),.b true]
|none=>.tup [.sl .tight [],.b false]
theorem UK{fn:FuncId}{args:List D}{R:Option (List V)}{st:St}(h:TrF prog fn args st (Lp R st)):TrF prog fn args st λd st'=>d=Gl R/\st'=st:=by
 unfold Lp at h
 cases R with
|none =>
  refine h.mono λd st' h=>?_
  rcases h with⟨-,h1,h2⟩|⟨e,g,cap,zs,h, -⟩
  . exact⟨h1,h2⟩
  . cases h
|some F =>
  have h':=TrF.rest (ι:=Nat×Nat×List D) (el:=30) (p:=λi:Nat×Nat×List D=>True) (g:=λi=>i.1) (n:=λ_=>F.length) (cap:=λi=>i.2.1) (es:=λ_=>F.map V.cells) (F:=λi=>.tup [.ar i.1 0 F.length i.2.1,.b true]) (zs:=λi=>i.2.2) (S:=λ_=>st) (F':=λ_=>.tup [.sl .shared (F.map V.cells),.b true]) (sz:=4) (by decide) (λi _=>⟨JB F,Ab ..⟩) (λi=>.tup _ _ (.cons _ _ _ _ .ar (.cons _ _ _ _ (.same _) .nil))) (h.mono λd st' h=>by
   rcases h with⟨h, -⟩|⟨e,g,cap,zs,h,h2,h3⟩
   . cases h
   . cases h
     exact⟨(g,cap,zs),trivial,h2,h3⟩)
  exact h'.mono λd st' ⟨i,k1,k2,k3⟩=>⟨k2,k3⟩
theorem Po(p:Pt)(f:Fc)(env:List V)(hp:∀t∈p.tests,t.val.Bg)(hpl:p.tests.length<=1000000)(hf:FK f)(he:∀v∈env,v.Bg)(hel:env.length<=1000000)(o:Own)(st:St):TrF prog 17 [.agg p.cells,.agg f.cells,.sl o (env.map V.cells)] st λd st'=>d=Gl (Mat.pass p f env)/\st'=st:=UK (Vc p f env hp hpl hf he hel _ rfl o st)
theorem Wo(p:Pt)(f:Fc)(env:List V)(hpl:p.tests.length<=1000000)(hf:FK f)(hel:env.length<=1000000)(o:Own)(st:St):TrF prog 18 [.agg p.cells,.agg f.cells,.sl o (env.map V.cells)] st λd st'=>d=Gl (Mat.pass p f env)/\st'=st:=UK (Qr p f env hpl hf hel _ rfl o st)
end
def oF (x:Int×List V):List D:=[.i x.1,.sl .shared (x.2.map V.cells)]
structure FKs (F:List Fc):Prop where
 f:∀f∈F,FK f
 l:F.length<=1000000
structure PK (p:Pt):Prop where
 v:∀t∈p.tests,t.val.Bg
 l:p.tests.length<=1000000
structure EK (e:List V):Prop where
 v:∀v∈e,v.Bg
 l:e.length<=1000000
def kD (p:Pt)(F:List Fc)(env:List V):List D:=[.ip [.sl .shared (F.map Fc.cells)],.ip p.cells,.ip [.sl .shared (env.map V.cells)]]
def GL:Option Fc->D
|some f=>.tup [.agg f.cells,.b true]
|none=>.tup [.agg [.i 0,.i 0,.i 0,.i 0,.sl .tight []],.b false]
theorem Mat.find_drop{F:List Fc}{i:Nat}{f:Fc}{id:Int}(h:F[i]?=some f):Mat.find (F.drop i) id=if f.id=id then some f else Mat.find (F.drop (i+1)) id:=by
 rw[V.drop_cons h]
 unfold Mat.find
 rw[GA]
 by_cases e:f.id=id
 . rw[if_pos e,beq_iff_eq.2 e]
 . rw[if_neg e,beq_eq_false_iff_ne.2 e]
theorem Wq(F:List Fc)(hF:F.length<=1000000)(id:Int)(st:St):TrF prog 61 [.sl .shared (F.map Fc.cells),.i id] st λd st'=>d=GL (Mat.find F id)/\st'=st:=by
 have hFm:(F.map Fc.cells).length=F.length:=Ab ..
 have hFc:=hMp Fc.cells F
 obtain⟨R,hR⟩:∃R,Mat.find F id=R:=⟨_,rfl⟩
 have HR:Hid (Mat.find (F.drop 0) id=R):=hR
 rw[hR]
 clear hR
 generalize F.map Fc.cells=FS at *
 refine FN (G:=SI prog (.cell 4 43) (.tmp 5)) func61 rfl (by rw[ntmps61];exact BD rfl) (λh1 h2 h3=>Jd rfl h1 h2 h3) ?_
 simp only[ntmps61]
 repeat' (first|refine QX ?_|refine QB ?_;intro b|with_reducible refine QZ ?_<;>(try constructor)<;>intro hb<;>try intro hb1|fail)
 refine DN (ι:=Nat) (λi A st'=>i<=F.length/\Hid (Mat.find (F.drop i) id=R)/\A.df=[]/\A.e 0=.sl .shared FS/\A.e 1=.i id/\A.e 4=.ptr b 0/\A.e 6=.i i/\st'=.box b 43 [.i 0,.i 0,.i 0,.i 0,.sl .tight []]::st) (λi=>F.length - i) 0 ⟨Ao _,HR,Qf,Qf,Qf,Qf,Qf,rfl⟩ ?_
 clear HR
 rintro i A st' ⟨hi,HT,hdf,e0,e1,e4,e6,rfl⟩
 by_cases hlt:i<F.length
 . obtain⟨f,hf⟩:=gEx hlt
   have hfc:=hFc.out i f hf
   have HE:=HT.out
   rw[Mat.find_drop hf]at HE
   clear HT hFc hf
   by_cases he:f.id=id
   . rw[if_pos he]at HE
     subst HE he
     unfold GL
     dsimp only
     rw[show f.cells=[.i f.id,.i f.time,.i f.tmpl,.i f.ver,.sl .shared (f.s.map V.cells)]from rfl]at *
     generalize f.id=f0 at *
     generalize f.time=f1 at *
     generalize f.tmpl=f2 at *
     generalize f.ver=f3 at *
     generalize f.s.map V.cells=VS at *
     repeat' (first|refine QX ?_|refine QB ?_;intro b|with_reducible refine QZ ?_<;>(try constructor)<;>intro hb<;>try intro hb1|fail)
     all_goals(refine Fq (rs:=[]) q_x q_y (Ar _) ⟨_,_,rfl,DU q_s q_m q_s q_v,q_w⟩ q_t (LE.refl _) ⟨rfl,rfl⟩)
   . rw[if_neg he]at HE
     replace HE:=Aa HE
     rw[show f.cells=[.i f.id,.i f.time,.i f.tmpl,.i f.ver,.sl .shared (f.s.map V.cells)]from rfl]at *
     generalize f.id=f0 at *
     generalize f.time=f1 at *
     generalize f.tmpl=f2 at *
     generalize f.ver=f3 at *
     generalize f.s.map V.cells=VS at *
     repeat' (first|refine QX ?_|refine QB ?_;intro b|with_reducible refine QZ ?_<;>(try constructor)<;>intro hb<;>try intro hb1|fail)
     refine⟨i+1,⟨hlt,HE,?_,?_,?_,?_,?_,rfl⟩,by omega⟩
     all_goals exact Qf
 . have HE:=HT.out
   rw[Az q_o]at HE
   subst HE
   clear HT hFc
   repeat' (first|refine QX ?_|refine QB ?_;intro b|with_reducible refine QZ ?_<;>(try constructor)<;>intro hb<;>try intro hb1|fail)
   all_goals(refine Fq (rs:=[]) q_x q_y (Ar _) ⟨_,_,rfl,DU q_s q_m q_s q_v,q_w⟩ q_t (LE.refl _) ⟨rfl,rfl⟩)
namespace Mat
def envF (F:List Fc):List Pt->List Int->List V->List V×Bool
|[],ids,env=>(env,decide (ids=[]))
|p::ps,ids,env=>if p.neg=true then(if passL p F env=[]then envF F ps ids env else([],false))
  else match ids with
   | []=>([],false)
   | i::is=>match find F i with
    | none=>([],false)
    | some f=>match pass p f env with
     | none=>([],false)
     | some e=>envF F ps is e
theorem envF_R(F:List Fc):∀(ps:List Pt) (ids:List Int) (env:List V),match envR F ps ids env with|some e=>envF F ps ids env=(e,true)|none=>(envF F ps ids env).2=false
|[],ids,env=>by
  unfold envR envF
  by_cases h:ids=[]
  . rw[if_pos h,decide_eq_true h]
  . rw[if_neg h,decide_eq_false h]
|p::ps,ids,env=>by
  rw[envR.eq_def,envF.eq_def]
  dsimp only
  by_cases hn:p.neg=true
  . rw[if_pos hn,if_pos hn]
    by_cases h0:passL p F env=[]
    . rw[if_pos h0,if_pos h0];exact envF_R F ps ids env
    . rw[if_neg h0,if_neg h0]
  . rw[if_neg hn,if_neg hn]
    cases ids with
    | nil=>rfl
    | cons i is =>
     dsimp only
     cases find F i with
     | none=>rfl
     | some f =>
      dsimp only
      cases pass p f env with
      | none=>rfl
      | some e=>exact envF_R F ps is e
end Mat
end
section
attribute [local push_cast] Br Bl BV V.cells_mk V.cells_len Nat.mul_one Int.sub_zero List.map_nil beq_self_eq_true bne_self_eq_false List.head?_cons Bool.not_true Bool.not_false Nat.zero_add List.append_assoc Kf Kg
attribute [-instance] Ck Cu BO
section
variable {P:Program} {r:Option Nat} {m:Option Ro} {A:AA} {st:St} {k:D->St->Prop} {dst:Option Tmp} {ty:TypeId} {pos:String} {aft:Array Edge} {gd:Option (Nat×Bool)} {t kt et:TypeId} {kn:Int} {o:Oper} {e:Nat->D} {K:D->St->Prop} {key:MK}
theorem Qw{x y:Operand}(ho:o.op=.lookup t x y true)(hx:ev e x=some (.s (.map none)))(hy:ev e y=some key.d)(hu:P.underlying t=some (.map kt et))(hk:KeyS P kt st key [])(hz:(P.info? et).bind (·.zero)=some (.int .i64 0))(h:K (.tup [.i 0,.b false]) st):OpC P r o e st K:=by
 refine DB (by rw[ho];intro c hc;cases hc) λρ w hr hh=>.inl ?_
 have hp:=DI (hr _ (by simp[ho,Op.operands]) _ hx)
 have hv:=Tb (hr _ (by simp[ho,Op.operands]) _ hy)
 have hk:=hk.wld hh
 unfold execOp
 rw[ho]
 simp only
 rw[hv,hp]
 have hz2:(zeroValue et).run P w=.ok (.int .i64 0) w:=by
  cases hi:P.info? et with
  | none=>rw[hi]at hz;cases hz
  | some i =>
   rw[hi]at hz
   simp only[BS]at hz
   simp[zeroValue,typeInfo,hi,hz]
 have hf:(Instr.findKey kt key.v []).run P w=.ok none w:=Iv (l:=[]) hk
 refine⟨.tuple #[.int .i64 0,.bool false],w,?_,_,st,Pa _ _,hh,Ext.refl _ _,h⟩
 simp[Instr.lookup,run_underlying hu,GW hk,hf,hz2]
theorem eU{x y:Operand}(hx:ev A.e x=some (.s (.map none)))(hy:ev A.e y=some (.i kn))(ht:kmT P t=some kt)(hk:KeyS P kt st (.i kn) [])(h:CZ m st/\k (.tup [.i 0,.b false]) st):S P r m ⟨dst,.lookup t x y true,ty,pos,aft,gd⟩ A st k:=by
 obtain⟨et,t1,t2⟩:=KN ht
 exact Ek (R:=λd s=>d=.tup [.i 0,.b false]/\s=st) rfl (Qw (key:=.i kn) rfl hx hy t1 hk t2 ⟨rfl,rfl⟩) ⟨_,_,rfl,rfl⟩ λd s ⟨e1,e2⟩=>by subst e1 e2;exact h
end
theorem Yl(o : Nat)(ty:TypeId)(pre post:List D)(M:MemP)(K:List Fc)(id:Int)(hok:M.okF K)(hn:K.length<=1000000)(st:St) :
 TrF prog 64 [.ptr o pre.length,.i id] (.box o ty (pre++(M.cells K.length++post))::(M.resF K++st)) λd st'=>d=GL (Mat.find K id)/\st'=.box o ty (pre++(M.cells K.length++post))::(M.resF K++st):=by
 have hW:=LQ pre post
 generalize hpl:pre.length=off at *
 obtain⟨hd0,hd1,hd2,hd3,ht0,ht1,ht2,hl1,hl2,hl3⟩:=hW
 cases M with
|no =>
  obtain⟨hK, -⟩:=hok
  obtain rfl:K=[]:=Eh.1 hK
  clear hK
  unfold MemP.resF GL
  dsimp only[MemP.cells,MemP.res,List.length_nil,List.nil_append,List.cons_append,Mat.find,List.find?_nil]
  refine FN (G:=SI prog (.cell 4 43) (.tmp 5)) func64 rfl (by rw[ntmps64];exact BD rfl) (λh1 h2 h3=>Jd rfl h1 h2 h3) ?_
  simp only[ntmps64]
  repeat' (first|refine QV ?_|((with_reducible apply(eU (kn:=id) (kt:=3)));(focus exact q_v);(focus exact q_v);(focus kernel_rfl);(focus exact Hp (by kernel_rfl) (λe he=>by cases he)))|refine QY ?_|refine QB ?_;intro b|with_reducible refine QZ ?_<;>(try constructor)<;>intro hb<;>try intro hb1|fail)
  all_goals(refine Fq (rs:=[]) q_x q_y (Ar _) ⟨_,_,rfl,DU q_s q_m q_s q_v,q_w⟩ q_t (LE.refl _) ⟨rfl,rfl⟩)
|at_ bm ml cm gl cl zl gk ck zk =>
  obtain⟨hM,hzl,hzk, -⟩:=hok
  have hle:Hid (∀e∈ml,∃n,e.k=.i n):=λe he=>by
   obtain⟨x,hx,e1⟩:=Av.1 (hM.keys e he)
   exact⟨x.id,e1.symm⟩
  unfold MemP.resF
  dsimp only[MemP.cells,MemP.res,List.cons_append,List.nil_append]
  rw[Gx]at hzk |-
  cases hq:Mat.find K id with
  | none =>
   have hno:Fa ml (.i id)=none:=hM.none λh=>by
    obtain⟨f,hf,e⟩:=Av.1 h
    have:=Dr.1 hq f hf
    exact this (beq_iff_eq.2 (MK.i.inj e))
   have hlkd:lkD ml (.i id)=.tup [.i 0,.b false]:=by unfold lkD;rw[hno]
   clear hq hno hM hzl hzk
   unfold GL
   dsimp only
   generalize CR K++zl=RL at *
   generalize HG K++zk=RK at *
   generalize K.length=n at *
   refine FN (G:=SI prog (.cell 4 43) (.tmp 5)) func64 rfl (by rw[ntmps64];exact BD rfl) (λh1 h2 h3=>Jd rfl h1 h2 h3) ?_
   simp only[ntmps64]
   repeat' (first|refine QV ?_|((with_reducible apply(bz (b:=bm) (kn:=id) (l:=ml) (c:=cm) (kt:=3)));(focus exact q_v);(focus exact q_v);(focus(repeat(first|exact Vb|apply Va)));(focus kernel_rfl);(focus exact Hp (by kernel_rfl) hle.out);rw[hlkd])|refine QY ?_|refine QB ?_;intro b|with_reducible refine QZ ?_<;>(try constructor)<;>intro hb<;>try intro hb1|fail)
   all_goals(refine Fq (rs:=[]) q_x q_y (Ar _) ⟨_,_,rfl,DU q_s q_m q_s q_v,q_w⟩ q_t (LE.refl _) ⟨rfl,rfl⟩)
  | some f =>
   have hfm:=CI hq
   have hfi:f.id=id:=beq_iff_eq.1 (FE (p:=λf:Fc=>f.id == id) hq)
   obtain⟨j,hj,hje⟩:=Df hfm
   have hjs:K[j]?=some f:=by rw[Al hj,hje]
   have hlkd:lkD ml (.i id)=.tup [.i j,.b true]:=by
    unfold lkD
    rw[hM.look (k:=.i id) (j:=j) (by rw[Aq,hjs,<-hfi];rfl)]
   have hrd:=XL zl hjs
   have hcl:j*5+5<=(CR K++zl).length:=by rw[Ad,Dz];omega
   have hdl:5<=(List.drop (j*5) (CR K++zl)).length:=by rw[AO];omega
   have hjc:K.length<=cl:=by rw[Ad,Dz]at hzl;omega
   subst hfi
   clear hq hM hzl hzk hfm hje hjs
   unfold GL
   dsimp only
   rw[show f.cells=[.i f.id,.i f.time,.i f.tmpl,.i f.ver,.sl .shared (f.s.map V.cells)]from rfl]at *
   generalize CR K++zl=RL at *
   generalize HG K++zk=RK at *
   generalize K.length=n at *
   generalize f.id=f0 at *
   generalize f.time=f1 at *
   generalize f.tmpl=f2 at *
   generalize f.ver=f3 at *
   generalize f.s.map V.cells=VS at *
   refine FN (G:=SI prog (.cell 4 43) (.tmp 5)) func64 rfl (by rw[ntmps64];exact BD rfl) (λh1 h2 h3=>Jd rfl h1 h2 h3) ?_
   simp only[ntmps64]
   repeat' (first|refine QV ?_|((with_reducible apply(bz (b:=bm) (kn:=f0) (l:=ml) (c:=cm) (kt:=3)));(focus exact q_v);(focus exact q_v);(focus(repeat(first|exact Vb|apply Va)));(focus kernel_rfl);(focus exact Hp (by kernel_rfl) hle.out);rw[hlkd])|refine QY ?_|refine QB ?_;intro b|with_reducible refine QZ ?_<;>(try constructor)<;>intro hb<;>try intro hb1|fail)
   all_goals(refine Fq (rs:=[]) q_x q_y (Ar _) ⟨_,_,rfl,DU q_s q_m q_s q_v,q_w⟩ q_t (LE.refl _) ⟨rfl,rfl⟩)
end
section
attribute [local push_cast] Br Bl BV V.cells_mk V.cells_len Nat.mul_one Int.sub_zero List.map_nil beq_self_eq_true bne_self_eq_false List.head?_cons Bool.not_true Bool.not_false Nat.zero_add
end
section
attribute [local push_cast] Br Bl BV V.cells_mk V.cells_len Nat.mul_one Int.sub_zero List.map_nil beq_self_eq_true bne_self_eq_false List.head?_cons Bool.not_true Bool.not_false Nat.zero_add
def oG (x:List Int×List V):List D:=[.sl .shared (x.1.map Bl),.sl .shared (x.2.map V.cells)]
def cX (x:Rl)(F:List Fc)(l b:Nat):List D:=[.ip x.cells,.ip [.fn (.yield l) [] []],.ip [.sl .shared (F.map Fc.cells)],.ptr b 0]
def n8 (x:Rl)(F:List Fc)(l b:Nat):Res:=.box b 153 [.fn (.func 88) [] (cX x F l b)]
abbrev mn (b l:Nat)(nm:ByteArray)(sal:Int)(PS AS FS:List (List D)):Res:=.box b 153 [.fn (.func 88) [] [.ip [.str nm,.i sal,.sl .shared PS,.sl .shared AS],.ip [.fn (.yield l) [] []],.ip [.sl .shared FS],.ptr b 0]]
def of (S:St->St)(J Jx:Nat->St->Prop)(n:Nat)(d:D)(st':St):Prop:=(d=.b true/\∃C',st'=S C'/\J n C')\/(d=.b false/\∃i' C',st'=S C'/\Jx i' C')
end
section
section
variable {P:Program} {N:Nat} {r:Option Nat} {A:AA} {st s1:St} {Q:Exit->AA->St->Prop} {m:Option Ro} {k:D->St->Prop} {dst:Option Tmp} {ty:TypeId} {pos:String} {aft:Array Edge} {gd:Option (Nat×Bool)} {f:FuncId} {ds ds':List D} {w:World}
theorem TrF.inhab{R:D->St->Prop}(h:TrF P f ds st R){us:List Value}(hr:RepL (OwnS st) w us ds)(hh:Holds st w):∃d st',R d st':=by
 obtain⟨e,w',fr,⟨v, -,d,st', -, -, -,h4⟩, -⟩:=h us.toArray w (by simpa using hr) hh []
 exact⟨d,st',h4⟩
theorem TrF.pw{R:D->St->Prop}(h:st.Pairwise Apart->TrF P f ds st R):TrF P f ds st R:=λvs w h1 h2=>h h2.1 vs w h1 h2
theorem Yv{b:Nat}{ty:TypeId}{cs:List D}{d:D}{i:Nat}(hh:Holds st w)(hm:Res.box b ty cs∈st)(hc:cs[i]?=some d):∃v,Rep (OwnS st) w v d:=by
 obtain⟨⟨us,h1,h2⟩, -⟩:=hh.2 _ hm
 obtain⟨u, -,hu⟩:=h2.get? hc
 exact⟨u,hu⟩
theorem BG{R:D->St->Prop}{g:Operand}{args:Array Operand}{tys:Array TypeId}(hx:SA (ev A.e g) (evL A.e args.toList)=some (f,ds))(henter:∀args w,(callFunc f args).run P w=.ok (.enter f args) w)(hp:st.Perm s1)(h:TrF P f ds' s1 R)(hle:LEL ds ds')(hk:∀d st',R d st'->k d st'):S P r none ⟨dst,.call ⟨.value g,args,tys⟩,ty,pos,aft,gd⟩ A st k:=by
 unfold SA at hx
 split at hx
 . rename_i f' first caps hg
   cases ha:evL A.e args.toList with
   | none=>rw[ha]at hx;cases hx
   | some ds2 =>
    rw[ha]at hx
    cases hx
    exact(US rfl rfl hg ha henter ((TrF.perm hp h).le hle)).mono hk
 . cases hx
theorem La{id:Nat}{l:List Oper}(ro:Ro)(hm:P.follows .mixedOrders=true)(hB:JE .any l.toArray=true)(hok:GR N l=true)(hC:CZ (some ro) st)
 (h:nes st->(∃w,Holds st w)->W P r (some ro) l.toArray (Q .normal) l A st):Tr P N r (.region id l.toArray true) A st Q:=λa w h1 h2=>Da ro hm hB hok hC (λhne=>h hne ⟨w,h2⟩) a w h1 h2
end
end
section
def Jn (P:Program)(l:Nat){X:Type}(args:X->List D)(L:List X)(J Jx:Nat->St->Prop):Prop :=
 ∀(i:Nat) (x:X) (C K:St),L[i]?=some x->J i C->RoundC P l (args x) (C++K) λd st'=>∃C',st'=C'++K/\((d=.s (.bool true)/\J (i+1) C')\/(d=.s (.bool false)/\Jx (i+1) C'))
def d4 (P:Program)(g:FuncId)(caps:List D){X:Type}(args:X->List D)(L:List X)(K0:St)(Kend:St->Prop)(Kstop:Nat->St->Prop):Prop :=
 ∀(l:Nat) (C:St) (J Jx:Nat->St->Prop),Jn P l args L J Jx->J 0 C->TrF P g (.fn (.yield l) [] []::caps) (K0++C) λ_ st'=>∃K1 C',st'=K1++C'/\((Kend K1/\J L.length C')\/∃i,Kstop i K1/\Jx i C')
section
variable {P:Program} {N:Nat} {r:Option Nat} {A:AA} {st:St} {w:World} {Q:Exit->AA->St->Prop} {m:Option Ro} {k:D->St->Prop} {dst:Option Tmp} {ty:TypeId} {pos:String} {aft:Array Edge} {gd:Option (Nat×Bool)} {o:Oper}
theorem OP{l:Nat}{X:Type}{args:X->List D}{L:List X}{J Jx:Nat->St->Prop}{f:St->St}{K C:St}{i:Nat}{x:X}{g:Operand}{oas:Array Operand}{tys:Array TypeId}{ds:List D}
 (hY:Jn P l args L J Jx)(hJ:J i C)(hx:L[i]?=some x)(hg:ev A.e g=some (.fn (.yield l) [] []))(ha:evL A.e oas.toList=some ds)(hle:LEL ds (args x))(hf:∀C,f C=K++C)
 (hk1:∀C',J (i+1) C'->k (.s (.bool true)) (f C'))(hk0:∀C',Jx (i+1) C'->k (.s (.bool false)) (f C')):S P r none ⟨dst,.call ⟨.value g,oas,tys⟩,ty,pos,aft,gd⟩ A (f C) k:=by
 have h:OpC P r ⟨dst,.call ⟨.value g,oas,tys⟩,ty,pos,aft,gd⟩ A.e (f C) λd st'=>∃C',st'=f C'/\((d=.s (.bool true)/\J (i+1) C')\/(d=.s (.bool false)/\Jx (i+1) C')):=by
  refine Nw rfl rfl hg ha ?_
  refine(RoundC.perm (by rw[hf];exact Bm) (hY i x C K hx hJ) ?_).le hle
  rintro d s ⟨C',rfl,hc⟩
  exact⟨f C',by rw[hf];exact Bm,C',rfl,hc⟩
 refine h.mono ?_
 rintro d st' ⟨C',rfl,⟨rfl,h⟩|⟨rfl,h⟩⟩
 . exact hk1 C' h
 . exact hk0 C' h
theorem Iu{X:Type}{g:Operand}{ps:Array Tmp}{assign body:Code}{gf:FuncId}{caps:List D}{args:X->List D}{L:List X}{K0 C:St}{Kend:St->Prop}{Kstop:Nat->St->Prop}
 (hit:d4 P gf caps args L K0 Kend Kstop)(hent:∀args w,(callFunc gf args).run P w=.ok (.enter gf args) w)(hg:ev A.e g=some (.fn (.func gf) [] caps))(hps:∀x,(args x).length=ps.size)(hpN:ps.toList.all (λt=>decide (t<N))=true)
 (J:Nat->St->Prop)(Jx:Code->Nat->St->Prop)(h0:J 0 C)
 (hround:∀l i x C K,L[i]?=some x->J i C->Tr P N (some l) assign (SQ ⟨A.e,[]⟩ ps.toList (args x)) (C++K) (IK (λA' st'=>∃C1,(C1++K).Sublist st'/\∀K',Tr P N (some l) body A' (C1++K') (Ta K' (i+1) J Jx)) (λ_ _ _=>False)))
 (hdone:∀d K1 C',Kend K1->J L.length C'->Q .normal ⟨A.e,Fx d::A.df⟩ (BK d::(K1++C')))
 (hstop:∀c d i K1 C',Kstop i K1->Jx c i C'->Tr P N none c ⟨A.e,Fx d::A.df⟩ (BK d::(K1++C')) Q) :
 Tr P N none (.rangeFunc g ps assign body) A (K0++C) Q:=by
 intro a w h1 h2
 have hr:=PJ h1 hg
 generalize hgv:a.eval g=gv at hr
 cases hr with
|fn _ us1 us2 _ _ l1 l2 r1 r2 =>
 obtain rfl:us1=[]:=Ay l1
 refine wpIn_rangeFunc λfn hfn=>?_
 obtain⟨d,hd⟩:∃d,d=w.heap.size:=⟨_,rfl⟩
 obtain⟨rec,hrec⟩:∃rec,rec=Tl fn a.tmps ps assign body d:=⟨_,rfl⟩
 have n1:=Io h2 (Res.raw d (.deferred (some []))) (λb e=>by cases e;exact hd) (.deferred (some [])) (λ_=>by rw[hd];exact heap_alloc_new w _)
 obtain⟨w1,hw1⟩:∃w1,w1=w.alloc (.deferred (some [])):=⟨_,rfl⟩
 rw[<-hw1]at n1
 have hs1:w1.heap.size=d+1:=by rw[hw1,hd];simp
 have n2:=Io n1.1 (Res.raw (d+1) (.loop (rec .ready none))) (λb e=>by cases e;exact hs1.symm) (.loop (rec .ready none)) (λ_=>by rw[<-hs1];exact heap_alloc_new w1 _)
 obtain⟨W1,hW1⟩:∃W1,W1=w1.alloc (.loop (rec .ready none)):=⟨_,rfl⟩
 rw[<-hW1]at n2
 obtain⟨tm,htm⟩:∃tm:Nat->Value,tm=λt=>a.tmps.getD t undef:=⟨_,rfl⟩
 have n3:=n2.1.know (f:=tm) (e:=A.e) (λt=>by rw[htm];exact((h1.ext n1.2).ext n2.2).2.2 t)
 obtain⟨B,hB⟩:∃B:LoopState->Option Code->St,B=λs pe=>[Res.raw (d+1) (.loop (rec s pe)),Res.raw d (.deferred (some [])),Res.know tm A.e]:=⟨_,rfl⟩
 have hp:(Res.know tm A.e::Res.raw (d+1) (.loop (rec .ready none))::Res.raw d (.deferred (some []))::(K0++C)).Perm (K0++(C++B .ready none)):=by rw[hB];exact Nu
 have E3:Ext (OwnS (K0++C)) w (OwnS (K0++(C++B .ready none))) W1:=by rw[<-OwnS.perm hp];exact n1.2.trans (n2.2.trans n3.2)
 have H3:=n3.1.perm hp
 have hnl:∀(x:Loop) c E fr,Obj.loop x≠.cells c E fr:=λ_ _ _ _ e=>by cases e
 have hY:Jn P (d+1) args L (λi C'=>∃C,C'=C++B .ready none/\J i C) (λi C'=>∃c C,C'=C++B .done (some c)/\Jx c i C):=by
  rintro i x C' K hx ⟨Cn,rfl,hJ⟩ vs w2 hv hh
  rw[Ai]at hv hh
  have hl:w2.heap[d+1]?=some (.loop (rec .ready none)):=hh.2 (Res.raw (d+1) (.loop (rec .ready none))) (by rw[hB];simp)
  have hkn:∀t,Rep (OwnS (Cn++(B .ready none++K))) w2 (tm t) (A.e t):=hh.2 (Res.know tm A.e) (by rw[hB];simp)
  have hy:=run_yield (P:=P) (args:=vs) hl (by rw[hrec,<-AR,hv.1];exact hps x)
  rw[hrec]at hy
  refine⟨fn,_,assign,body,hy,roundIn_of_wpIn hfn ?_⟩
  clear hy
  have hz:(ps.zip vs).foldl (λtmps (t,a)=>tmps.setIfInBounds t a) a.tmps=(ps.toList.zip vs.toList).foldl (λt (p,v)=>t.setIfInBounds p v) a.tmps:=by
   rw[<-Mj,d6]
  have hrel:RelA N (OwnS (Cn++(B .ready none++K))) w2 ⟨(ps.zip vs).foldl (λtmps (t,a)=>tmps.setIfInBounds t a) a.tmps,[]⟩ (SQ ⟨A.e,[]⟩ ps.toList (args x)):=by
   rw[hz]
   refine Mu _ _ _ _ _ (λp hp=>by simpa using AU.1 hpN p hp) ⟨h1.1,rfl,λt=>?_⟩ hv
   have:=hkn t
   rw[htm]at this
   exact this
  refine wpIn_mono (hround (d+1) i x Cn (B .ready none++K) hx hJ _ w2 hrel hh) ?_
  rintro e a3 w3 ⟨A3,st3,k1,k2,k3,k4⟩
  cases e with
  | normal =>
   obtain⟨C1,hsub,hbody⟩:=k4
   have e3:=Ext.drop (λ_ h=>hsub.subset h) w3
   have H4:=k2.sub hsub
   have hl3:w3.heap[d+1]?=some (.loop (rec .ready none)):=H4.2 (Res.raw (d+1) (.loop (rec .ready none))) (by rw[hB];simp)
   refine⟨_,run_beginRound hl3 (by rw[hrec]),?_⟩
   have q:=Ia (C:=C1) (T:=[Res.raw d (.deferred (some [])),Res.know tm A.e]++K) (o':=.loop {rec .ready none with state:=.busy}) (by rw[hB]at H4;exact H4) (hnl _)
   have hbz:C1++(Res.raw (d+1) (.loop {rec .ready none with state:=.busy})::([Res.raw d (.deferred (some [])),Res.know tm A.e]++K))=C1++(B .busy none++K):=by rw[hB,hrec];rfl
   have hbr:C1++(Res.raw (d+1) (.loop (rec .ready none))::([Res.raw d (.deferred (some [])),Res.know tm A.e]++K))=C1++(B .ready none++K):=by rw[hB];rfl
   rw[hbz]at q
   rw[hbr]at q
   have E4:=(k3.trans e3).trans q.2
   refine wpIn_mono (hbody (B .busy none++K) _ _ ((k1.ext e3).ext q.2) q.1) ?_
   have fin:∀(jump:Option Code) (C5 st5:St) (w5:World),(C5++(B .busy none++K)).Sublist st5->Holds st5 w5->Ext (OwnS (C1++(B .busy none++K))) (w3.putObj (d+1) (.loop {rec .ready none with state:=.busy})) (OwnS st5) w5 ->
    (Instr.endRound (d+1) jump).run P w5=.ok (.bool jump.isNone) (w5.putObj (d+1) (.loop (rec (if jump.isNone then .ready else .done) jump))) /\
    Holds (C5++B (if jump.isNone then .ready else .done) jump++K) (w5.putObj (d+1) (.loop (rec (if jump.isNone then .ready else .done) jump))) /\
    Ext (OwnS (Cn++B .ready none++K)) w2 (OwnS (C5++B (if jump.isNone then .ready else .done) jump++K)) (w5.putObj (d+1) (.loop (rec (if jump.isNone then .ready else .done) jump))):=λjump C5 st5 w5 hs5 hh5 he5=>by
    have e5:=Ext.drop (λ_ h=>hs5.subset h) w5
    have H6:=hh5.sub hs5
    have hl5:w5.heap[d+1]?=some (.loop (rec .busy none)):=H6.2 (Res.raw (d+1) (.loop (rec .busy none))) (by rw[hB];simp)
    have hr5:=run_endRound (P:=P) jump hl5
    rw[hrec]at hr5 |-
    have q5:=Ia (C:=C5) (T:=[Res.raw d (.deferred (some [])),Res.know tm A.e]++K) (o':=.loop (Tl fn a.tmps ps assign body d (if jump.isNone then .ready else .done) jump)) (by rw[hB]at H6;exact H6) (hnl _)
    have hbz5:C5++(Res.raw (d+1) (.loop (Tl fn a.tmps ps assign body d (if jump.isNone then .ready else .done) jump))::([Res.raw d (.deferred (some [])),Res.know tm A.e]++K))=C5++B (if jump.isNone then .ready else .done) jump++K:=by rw[hB,hrec,Ai];rfl
    have hbr5:C5++(Res.raw (d+1) (.loop (rec .busy none))::([Res.raw d (.deferred (some [])),Res.know tm A.e]++K))=C5++(B .busy none++K):=by rw[hB];rfl
    rw[hbz5]at q5
    rw[hbr5]at q5
    refine⟨hr5,q5.1,?_⟩
    rw[show Cn++B .ready none++K=Cn++(B .ready none++K) by rw[Ai]]
    exact(E4.trans (he5.trans e5)).trans q5.2
   rintro e a5 w5 ⟨A5,st5,m1,m2,m3,m4⟩
   cases e with
   | normal =>
    obtain⟨C5,hs5,hJ5⟩:=m4
    obtain⟨f1,f2,f3⟩:=fin none C5 st5 w5 hs5 m2 m3
    exact⟨_,_,f1,_,rfl,.s (.bool true),_,.s _ rfl,f2,f3,_,rfl,.inl ⟨rfl,C5,rfl,hJ5⟩⟩
   | ret =>
    obtain⟨C5,hs5,hJ5⟩:=m4
    obtain⟨f1,f2,f3⟩:=fin (some .ret) C5 st5 w5 hs5 m2 m3
    exact⟨_,_,f1,_,rfl,.s (.bool false),_,.s _ rfl,f2,f3,_,rfl,.inr ⟨rfl,.ret,C5,rfl,hJ5⟩⟩
   | exit id =>
    obtain⟨C5,hs5,hJ5⟩:=m4
    obtain⟨f1,f2,f3⟩:=fin (some (.exit id)) C5 st5 w5 hs5 m2 m3
    exact⟨_,_,f1,_,rfl,.s (.bool false),_,.s _ rfl,f2,f3,_,rfl,.inr ⟨rfl,.exit id,C5,rfl,hJ5⟩⟩
   | goto t =>
    obtain⟨C5,hs5,hJ5⟩:=m4
    obtain⟨f1,f2,f3⟩:=fin (some (.goto t)) C5 st5 w5 hs5 m2 m3
    exact⟨_,_,f1,_,rfl,.s (.bool false),_,.s _ rfl,f2,f3,_,rfl,.inr ⟨rfl,.goto t,C5,rfl,hJ5⟩⟩
   | panic c=>exact m4.elim
   | outgrown=>exact m4.elim
  | exit id=>exact k4.elim
  | goto t=>exact k4.elim
  | ret=>exact k4.elim
  | panic c=>exact k4.elim
  | outgrown=>exact k4.elim
 refine⟨d+1,[Fx d],W1,{target:=.fn (.func gf) us2.toArray,args:=#[.func (.yield (d+1)) #[] #[]]},W1,gf,#[.func (.yield (d+1)) #[] #[]]++us2.toArray,W1,?_,?_,λ_ _=>trivial,?_,(λh=>by cases h),?_⟩
 . rw[hW1,hrec,hw1,hd]
   exact run_enterLoop_outer _ _ _ _ _
 . simp only[resolve,hgv]
   simp[go_sem]
 . simp[invoke,go_sem,hent]
 . have hcall := hit (d + 1) (C ++ B .ready none) _ _ hY ⟨C, rfl, h0⟩ (#[.func (.yield (d + 1)) #[] #[]] ++ us2.toArray) W1 (by
    have hvs:(#[Value.func (.yield (d+1)) #[] #[]]++us2.toArray).toList=Value.func (.yield (d+1)) #[] #[]::us2:=by simp
    rw[hvs]
    refine RepL.cons ?_ ?_
    . exact .fn (.yield (d+1)) [] [] [] [] rfl rfl (λi h=>absurd h (BL _)) (λi h=>absurd h (BL _))
    . exact⟨l2,λi h h'=>(r2 i h h').ext E3⟩) H3
   refine(callsIn_wide.2 hcall).mono ?_
   rintro e w2 ⟨v,rfl,dd,st2, -,q2,q3,K1,C2,rfl,⟨hk,Cn,rfl,hJ⟩|⟨i,hk,c,Cn,rfl,hJ⟩⟩
   . have hl:w2.heap[d+1]?=some (.loop (rec .ready none)):=q2.2 (Res.raw (d+1) (.loop (rec .ready none))) (by rw[hB];simp)
     have hend:(Instr.endLoop (d+1)).run P w2=.ok none (w2.putObj (d+1) (.loop {rec .ready none with state:=.exhausted})):=by
      subst hrec;exact run_endLoop (P:=P) hl (by simp)
     have q2':Holds ((K1++Cn)++Res.raw (d+1) (.loop (rec .ready none))::[Res.raw d (.deferred (some [])),Res.know tm A.e]) w2:=by rw[hB,<-Ai]at q2;exact q2
     have q:=Ia (o':=.loop {rec .ready none with state:=.exhausted}) q2' (hnl _)
     have hsub:(BK d::(K1++Cn)).Sublist (BK d::(K1++Cn++[Res.raw (d+1) (.loop {rec .ready none with state:=.exhausted}),Res.know tm A.e])):=(Dd _ _).cons_cons _
     have hpm:(K1++Cn++Res.raw (d+1) (.loop {rec .ready none with state:=.exhausted})::[Res.raw d (.deferred (some [])),Res.know tm A.e]).Perm (BK d::(K1++Cn++[Res.raw (d+1) (.loop {rec .ready none with state:=.exhausted}),Res.know tm A.e])):=by
      refine(CU _ (.swap _ _ _)).trans ?_
      exact AD
     have hq3:Ext (OwnS (K0++C)) w (OwnS ((K1++Cn)++Res.raw (d+1) (.loop (rec .ready none))::[Res.raw d (.deferred (some [])),Res.know tm A.e])) w2:=by
      have:=E3.trans q3
      rw[hB,<-Ai]at this
      exact this
     have Ef:Ext (OwnS (K0++C)) w (OwnS (BK d::(K1++Cn))) (w2.putObj (d+1) (.loop {rec .ready none with state:=.exhausted})):=by
      refine((hq3.trans q.2).trans ?_)
      rw[OwnS.perm hpm]
      exact Ext.drop (λ_ h=>hsub.subset h) _
     exact⟨none,_,hend,⟨A.e,Fx d::A.df⟩,_,⟨h1.1,by show Fx d::a.defers=Fx d::A.df;rw[h1.2.1],λt=>(h1.2.2 t).ext Ef⟩,(q.1.perm hpm).sub hsub,Ef,hdone d K1 Cn hk hJ⟩
   . have hl:w2.heap[d+1]?=some (.loop (rec .done (some c))):=q2.2 (Res.raw (d+1) (.loop (rec .done (some c)))) (by rw[hB];simp)
     have hend:(Instr.endLoop (d+1)).run P w2=.ok (some c) (w2.putObj (d+1) (.loop {rec .done (some c)with state:=.exhausted})):=by
      subst hrec;exact run_endLoop (P:=P) hl (by simp)
     have q2':Holds ((K1++Cn)++Res.raw (d+1) (.loop (rec .done (some c)))::[Res.raw d (.deferred (some [])),Res.know tm A.e]) w2:=by rw[hB,<-Ai]at q2;exact q2
     have q:=Ia (o':=.loop {rec .done (some c)with state:=.exhausted}) q2' (hnl _)
     have hsub:(BK d::(K1++Cn)).Sublist (BK d::(K1++Cn++[Res.raw (d+1) (.loop {rec .done (some c)with state:=.exhausted}),Res.know tm A.e])):=(Dd _ _).cons_cons _
     have hpm:(K1++Cn++Res.raw (d+1) (.loop {rec .done (some c)with state:=.exhausted})::[Res.raw d (.deferred (some [])),Res.know tm A.e]).Perm (BK d::(K1++Cn++[Res.raw (d+1) (.loop {rec .done (some c)with state:=.exhausted}),Res.know tm A.e])):=by
      refine(CU _ (.swap _ _ _)).trans ?_
      exact AD
     have hq3:Ext (OwnS (K0++C)) w (OwnS ((K1++Cn)++Res.raw (d+1) (.loop (rec .done (some c)))::[Res.raw d (.deferred (some [])),Res.know tm A.e])) w2:=by
      have:=E3.trans q3
      rw[hB,<-Ai]at this
      exact this
     have Ef:Ext (OwnS (K0++C)) w (OwnS (BK d::(K1++Cn))) (w2.putObj (d+1) (.loop {rec .done (some c)with state:=.exhausted})):=by
      refine((hq3.trans q.2).trans ?_)
      rw[OwnS.perm hpm]
      exact Ext.drop (λ_ h=>hsub.subset h) _
     exact⟨some c,_,hend,wpIn_mono (hstop c d i K1 Cn hk hJ _ _ ⟨h1.1,by show Fx d::a.defers=Fx d::A.df;rw[h1.2.1],λt=>(h1.2.2 t).ext Ef⟩ ((q.1.perm hpm).sub hsub)) λ_ _ _=>PostA.ext Ef⟩
end
end
section
attribute [local push_cast] Br Bl BV V.cells_mk V.cells_len Nat.mul_one Int.sub_zero List.map_nil beq_self_eq_true bne_self_eq_false List.head?_cons Bool.not_true Bool.not_false Nat.zero_add List.append_assoc Kf Kg
section
variable {P:Program} {f:FuncId} {args:List D} {st:St}
theorem TrF.ar0{R:D->St->Prop}{g off cap:Nat}(h:TrF P f (.sl .shared []::args) st R):TrF P f (.ar g off 0 cap::args) st R:=λvs w h1 h2=>by
 obtain⟨u,t,e,k1,k2⟩:=RepL.inv_cons h1
 have k3:Rep (OwnS st) w u (.sl .shared []):=by
  cases k1 with
  | ar _ _ _ _ c1 c2 =>
   exact .sl .shared [] (some ⟨g,off,none⟩) cap [] 1 (Ao _) c2 (λe=>by cases e) q_o (λe h=>by cases h) rfl (λd h=>by simp at h) (λi h=>absurd h (BL _)) (λi h=>absurd h (BL _)) trivial
 exact h vs w (by rw[e];exact RepL.cons k3 k2) h2
theorem jq{w:World}{b:Nat}{ty:TypeId}{cs:List D}{s0:St}{v:Value}(hh:Holds (.box b ty cs::s0) w)(hv:Rep (OwnS (.box b ty cs::s0)) w v (.ptr b 0)):Rep (OwnS s0) w v (.ip cs):=by
 cases hv
 obtain⟨⟨us,hb,hr⟩,hlc⟩:=hh.2 _ (Ag ..)
 have he:Ext (OwnS (.box b ty cs::s0)) w (OwnS s0) w:=Ext.drop (λ_ h=>Ae _ h) w
 have hr:=hr.ext he
 have hne:∀o,¬OwnS s0 b o:=λo ho=>by
  obtain⟨x,hx,hxb,_⟩:=ho
  exact(AX.1 hh.1).1 x hx b rfl hxb
 exact .ip b 0 us.toList cs hr.1 hlc (λi hi=>⟨(AE.1 hb).1,hne _,by
  rw[cell_of_row _ b (0+i) us ty (0,0) hb,Bo]
  simp at hi |-⟩) hr.2
theorem TrF.capIp{g:Fn}{ty:TypeId}{cs:List D}{S:St}(h:TrF P f args st λd st'=>∃b,d=.fn g [] [.ptr b 0]/\st'=.box b ty cs::S):TrF P f args st λd st'=>d=.fn g [] [.ip cs]/\st'=S:=by
 intro vs w h1 h2
 refine(h vs w h1 h2).mono λ_ w' ⟨v,ev,d,s,k1,k2,k3,b,e1,e2⟩=>?_
 subst e1 e2
 have he:=Ext.drop (st:=.box b ty cs::S) (st':=S) (λ_ h=>Ae _ h) w'
 refine⟨v,ev,_,S,?_,k2.sub (AK _ _),k3.trans he,rfl,rfl⟩
 cases k1 with
|fn _ us1 us2 _ _ hl1 hl2 hr1 hr2 =>
  obtain⟨u,t,rfl,q1,q2⟩:=RepL.inv_cons (us:=us2) (c:=.ptr b 0) (cs:=[]) ⟨hl2,hr2⟩
  obtain rfl:=q2.inv_nil
  have h3:RepL (OwnS S) w' [u] [.ip cs]:=RepL.cons (jq k2 q1) .nil
  exact .fn g us1 [u] [] [.ip cs] hl1 h3.1 (λi h h'=>absurd h' (BL _)) h3.2
end
def Gm (K:List Nat):List (List D):=K.map λb=>[D.ptr b 0]
theorem WG(K:List Nat):(Gm K).flatten=Eb K:=by
 unfold Gm Eb
 induction K with
|nil=>rfl
|cons b K ih=>rw[Au,AL,ih,Au];rfl
theorem PT(o:Own)(st:St):TrF prog 140 [.sl o []] st λd st'=>d=.sl .shared []/\st'=st:=by
 refine Qin [2] func140 results140 ntmps140 ?_
 refine GF 117 1 0 ?_
 repeat' (first|refine QV ?_|((with_reducible apply SV);(focus exact q_v);(focus exact q_v);intro bn hbn)|refine QY ?_|(refine QB ?_;intro b)|refine QP ?_;intro o' ho'|(with_reducible refine QZ ?_<;>(try constructor)<;>intro hb<;>try intro hb1)|fail)
 . clear hbn hb
   exact BZ
 . exact BZ
theorem aq(g cap:Nat)(K:List Nat)(zs:List D)(hn:K.length<=10000000000000)(hpos:0<K.length)(st:St):TrF prog 140 [.ar g 0 K.length cap] (.box g 117 (Eb K++zs)::st) λd st'=>d=.sl .shared (Gm K)/\st'=.box g 117 (Eb K++zs)::st:=by
 have hrl:(Eb K).length=K.length*1:=by unfold Eb;rw[Ab,CG]
 have h':TrF prog 140 [.ar g 0 K.length cap] (.box g 117 (Eb K++zs)::st) λd st'=>∃i:Nat×Nat×List D,True/\d=.ar i.1 0 K.length i.2.1/\st'=.box i.1 117 ((Gm K).flatten++i.2.2)::.box g 117 (Eb K++zs)::st:=by
  rw[WG]
  generalize Eb K=RP at *
  generalize K.length=n at *
  refine Qin [2] func140 results140 ntmps140 ?_
  repeat' (first|refine QV ?_|((with_reducible apply Mz);(focus exact q_v);(focus exact q_v))|with_reducible refine SX ?_|with_reducible refine XU ?_|((with_reducible apply(Te (ds:=RP) (zs:=zs)));(focus(repeat(first|exact Vb|apply Va)));(focus exact hrl);(focus exact hpos);(focus omega);(focus omega);intro g' cap' zs' hc hl')|refine QY ?_|refine QB ?_;intro b|with_reducible refine QZ ?_<;>(try constructor)<;>intro hb<;>try intro hb1|fail)
  exact Bf (by simp) q_y (Aj _) (LE.of_eq q_v) ⟨(g',cap',zs'),trivial,rfl,rfl⟩
 have h2:=TrF.rest (ι:=Nat×Nat×List D) (el:=117) (p:=λ_=>True) (g:=λi=>i.1) (n:=λ_=>K.length) (cap:=λi=>i.2.1) (es:=λ_=>Gm K) (F:=λi=>.ar i.1 0 K.length i.2.1) (zs:=λi=>i.2.2) (S:=λ_=>.box g 117 (Eb K++zs)::st) (F':=λ_=>.sl .shared (Gm K)) (sz:=1) (by decide) (λi _=>⟨λe he=>by
  obtain⟨x, -,rfl⟩:=Av.1 he
  rfl,Ab ..⟩) (λi=>.ar) h'
 exact h2.mono λd st' ⟨i,k1,k2,k3⟩=>⟨k2,k3⟩
theorem Ov(o : Nat)(ty:TypeId)(pre post:List D)(M:MemP)(K:List Nat)(hok:M.okT K)(hn:K.length<=10000000000000)(st:St) :
 TrF prog 104 [.ptr o pre.length] (.box o ty (pre++(M.cells K.length++post))::(M.resT K++st)) λd st'=>d=.fn (.func 141) [] [.ip [.sl .shared (Gm K)]]/\st'=.box o ty (pre++(M.cells K.length++post))::(M.resT K++st):=by
 refine TrF.capIp (ty:=111) ?_
 have hW:=LQ pre post
 generalize hpl:pre.length=off at *
 obtain⟨hd0,hd1,hd2,hd3,ht0,ht1,ht2,hl1,hl2,hl3⟩:=hW
 cases M with
|no =>
  obtain⟨hK, -⟩:=hok
  obtain rfl:K=[]:=Eh.1 hK
  clear hK
  have hC:=Aa (PT .tight)
  unfold MemP.resT Gm
  dsimp only[MemP.cells,MemP.res,List.length_nil,List.nil_append,List.cons_append,List.map_nil]
  refine Qin [2] func104 results104 ntmps104 ?_
  repeat' (first|refine QX ?_|refine QB ?_;intro b|with_reducible refine QZ ?_<;>(try constructor)<;>intro hb<;>try intro hb1|refine Qc call140 ((hC.out _)) ?_|fail)
  all_goals exact Bf (by simp) q_y (Aj _) (LE.of_eq q_v) ⟨_,rfl,rfl⟩
|at_ bm ml cm gl cl zl gk ck zk =>
  obtain⟨hM,hzl,hzk, -⟩:=hok
  unfold MemP.resT
  dsimp only[MemP.cells,MemP.res,List.cons_append,List.nil_append]
  have hC:Hid (∀st,TrF prog 140 [.ar gl 0 K.length cl] (.box gl 117 (Eb K++zl)::st) λd st'=>d=.sl .shared (Gm K)/\st'=.box gl 117 (Eb K++zl)::st):=λst=>by
   rcases Me K.length with h0|hpos
   . obtain rfl:=Ay h0
     exact TrF.ar0 (PT .shared _)
   . exact aq gl cl K zl hn hpos st
  clear hM hzl hzk
  generalize Gm K=LK at *
  generalize Eb K++zl=RL at *
  generalize (K.map MK.p).map MK.d++zk=RK at *
  generalize K.length=n at *
  refine Qin [2] func104 results104 ntmps104 ?_
  repeat' (first|refine QX ?_|refine QB ?_;intro b|with_reducible refine QZ ?_<;>(try constructor)<;>intro hb<;>try intro hb1|fail)
  all_goals exact Bf (by simp) q_y (Aj _) (LE.of_eq q_v) ⟨_,rfl,rfl⟩
theorem Ou(K:List Nat)(hn:K.length<=10000000000000):d4 prog 141 [.ip [.sl .shared (Gm K)]] (λb=>[D.ptr b 0]) K [] (λR=>R=[]) (λ_ R=>R=[]):=by
 intro l C J Jx hY hJ
 have hKm:(Gm K).length=K.length:=Ab ..
 have hKc:Hid (∀(i:Nat) (b:Nat),K[i]?=some b->(Gm K)[i]?=some [.ptr b 0]):=λi t h=>by unfold Gm;rw[Aq,h];rfl
 have HY:=Aa hY
 have HJ:=Aa hJ
 clear hY hJ
 generalize Gm K=LK at *
 refine Qin [] func141 results141 ntmps141 ?_
 refine Bn (st':=C) (.refl _) ?_
 repeat' (first|refine QX ?_|refine QB ?_;intro b|with_reducible refine QZ ?_<;>(try constructor)<;>intro hb<;>try intro hb1|fail)
 refine Bs (ι:=Nat) (λi A st'=>∃C',i<=K.length/\Hid (J i C')/\A.df=[]/\A.e 0=.fn (.yield l) [] []/\A.e 5=.sl .shared LK/\A.e 6=.i K.length/\A.e 7=.i i/\st'=C') (λi=>K.length - i) 0 ⟨C,Ao _,HJ,Qf,Qf,Qf,Qf,Qf,rfl⟩ ?_
 clear HJ
 rintro i A st' ⟨C',hi,HJ,hdf,e0,e5,e6,e7,rfl⟩
 by_cases hlt:i<K.length
 . obtain⟨x,hx⟩:=gEx hlt
   have hxc:=hKc.out i x hx
   clear hKc
   repeat' (first|refine QV ?_|((with_reducible apply(OP HY.out HJ.out hx));(focus exact q_v);(focus exact q_v);(focus exact q_l);(focus(repeat(first|exact OJ|apply Mo));done);all_goals(intro C' hC'))|refine QY ?_|refine QB ?_;intro b|with_reducible refine QZ ?_<;>(try constructor)<;>intro hb<;>try intro hb1|fail)
   rotate_left
   . exact Bf q_x q_y q_u (LE.refl _) ⟨[],C',rfl,.inr ⟨_,rfl,hC'⟩⟩
   refine⟨i+1,C',q_t,⟨C',hlt,Aa hC',?_,?_,?_,?_,?_,rfl⟩,by omega⟩
   all_goals exact Qf
 . have hil:i=K.length:=by omega
   subst hil
   clear HY hKc
   repeat' (first|refine QX ?_|refine QB ?_;intro b|with_reducible refine QZ ?_<;>(try constructor)<;>intro hb<;>try intro hb1|fail)
   exact Bf q_x q_y q_u (LE.refl _) ⟨[],st',rfl,.inl ⟨rfl,HJ.out⟩⟩
end
section
attribute [local push_cast] Br Bl BV V.cells_mk V.cells_len Nat.mul_one Int.sub_zero List.map_nil beq_self_eq_true bne_self_eq_false List.head?_cons Bool.not_true Bool.not_false Nat.zero_add
section
attribute [local push_cast] List.append_assoc Kf Kg
def FQ (K:List Fc):List (List D):=K.map Fc.cells
theorem WH(K:List Fc):(FQ K).flatten=CR K:=rfl
theorem PU(o:Own)(st:St):TrF prog 110 [.sl o []] st λd st'=>d=.sl .shared []/\st'=st:=by
 refine Qin [2] func110 results110 ntmps110 ?_
 refine GF 43 5 0 ?_
 repeat' (first|refine QV ?_|((with_reducible apply SV);(focus exact q_v);(focus exact q_v);intro bn hbn)|refine QY ?_|(refine QB ?_;intro b)|refine QP ?_;intro o' ho'|(with_reducible refine QZ ?_<;>(try constructor)<;>intro hb<;>try intro hb1)|fail)
 . clear hbn hb
   exact BZ
 . exact BZ
theorem au(g cap:Nat)(K:List Fc)(zs:List D)(hn:K.length<=1000000)(hpos:0<K.length)(st:St):TrF prog 110 [.ar g 0 K.length cap] (.box g 43 (CR K++zs)::st) λd st'=>d=.sl .shared (FQ K)/\st'=.box g 43 (CR K++zs)::st:=by
 have hrl:(CR K).length=K.length*5:=Dz K
 have h':TrF prog 110 [.ar g 0 K.length cap] (.box g 43 (CR K++zs)::st) λd st'=>∃i:Nat×Nat×List D,True/\d=.ar i.1 0 K.length i.2.1/\st'=.box i.1 43 ((FQ K).flatten++i.2.2)::.box g 43 (CR K++zs)::st:=by
  rw[WH]
  generalize CR K=RP at *
  generalize K.length=n at *
  refine Qin [2] func110 results110 ntmps110 ?_
  repeat' (first|refine QV ?_|((with_reducible apply Mz);(focus exact q_v);(focus exact q_v))|with_reducible refine SX ?_|with_reducible refine XU ?_|((with_reducible apply(Te (ds:=RP) (zs:=zs)));(focus(repeat(first|exact Vb|apply Va)));(focus exact hrl);(focus exact hpos);(focus omega);(focus omega);intro g' cap' zs' hc hl')|refine QY ?_|refine QB ?_;intro b|with_reducible refine QZ ?_<;>(try constructor)<;>intro hb<;>try intro hb1|fail)
  exact Bf (by simp) q_y (Aj _) (LE.of_eq q_v) ⟨(g',cap',zs'),trivial,rfl,rfl⟩
 have h2:=TrF.rest (ι:=Nat×Nat×List D) (el:=43) (p:=λ_=>True) (g:=λi=>i.1) (n:=λ_=>K.length) (cap:=λi=>i.2.1) (es:=λ_=>FQ K) (F:=λi=>.ar i.1 0 K.length i.2.1) (zs:=λi=>i.2.2) (S:=λ_=>.box g 43 (CR K++zs)::st) (F':=λ_=>.sl .shared (FQ K)) (sz:=5) (by decide) (λi _=>⟨λe he=>by
  obtain⟨x, -,rfl⟩:=Av.1 he
  rfl,Ab ..⟩) (λi=>.ar) h'
 exact h2.mono λd st' ⟨i,k1,k2,k3⟩=>⟨k2,k3⟩
theorem Ym(o : Nat)(ty:TypeId)(pre post:List D)(M:MemP)(K:List Fc)(hok:M.okF K)(hn:K.length<=1000000)(st:St) :
 TrF prog 73 [.ptr o pre.length] (.box o ty (pre++(M.cells K.length++post))::(M.resF K++st)) λd st'=>d=.fn (.func 111) [] [.ip [.sl .shared (FQ K)]]/\st'=.box o ty (pre++(M.cells K.length++post))::(M.resF K++st):=by
 refine TrF.capIp (ty:=24) ?_
 have hW:=LQ pre post
 generalize hpl:pre.length=off at *
 obtain⟨hd0,hd1,hd2,hd3,ht0,ht1,ht2,hl1,hl2,hl3⟩:=hW
 cases M with
|no =>
  obtain⟨hK, -⟩:=hok
  obtain rfl:K=[]:=Eh.1 hK
  clear hK
  have hC:=Aa (PU .tight)
  unfold MemP.resF FQ
  dsimp only[MemP.cells,MemP.res,List.length_nil,List.nil_append,List.cons_append,List.map_nil]
  refine Qin [2] func73 results73 ntmps73 ?_
  repeat' (first|refine QX ?_|refine QB ?_;intro b|with_reducible refine QZ ?_<;>(try constructor)<;>intro hb<;>try intro hb1|refine Qc call110 ((hC.out _)) ?_|fail)
  all_goals exact Bf (by simp) q_y (Aj _) (LE.of_eq q_v) ⟨_,rfl,rfl⟩
|at_ bm ml cm gl cl zl gk ck zk =>
  obtain⟨hM,hzl,hzk, -⟩:=hok
  unfold MemP.resF
  dsimp only[MemP.cells,MemP.res,List.cons_append,List.nil_append]
  have hC:Hid (∀st,TrF prog 110 [.ar gl 0 K.length cl] (.box gl 43 (CR K++zl)::st) λd st'=>d=.sl .shared (FQ K)/\st'=.box gl 43 (CR K++zl)::st):=λst=>by
   rcases Me K.length with h0|hpos
   . obtain rfl:=Ay h0
     exact TrF.ar0 (PU .shared _)
   . exact au gl cl K zl hn hpos st
  clear hM hzl hzk
  generalize FQ K=LK at *
  generalize CR K++zl=RL at *
  generalize (K.map Pq).map MK.d++zk=RK at *
  generalize K.length=n at *
  refine Qin [2] func73 results73 ntmps73 ?_
  repeat' (first|refine QX ?_|refine QB ?_;intro b|with_reducible refine QZ ?_<;>(try constructor)<;>intro hb<;>try intro hb1|fail)
  all_goals exact Bf (by simp) q_y (Aj _) (LE.of_eq q_v) ⟨_,rfl,rfl⟩
theorem Yk(K:List Fc)(hn:K.length<=1000000):d4 prog 111 [.ip [.sl .shared (FQ K)]] (λb=>[D.agg b.cells]) K [] (λR=>R=[]) (λ_ R=>R=[]):=by
 intro l C J Jx hY hJ
 have hKm:(FQ K).length=K.length:=Ab ..
 have hKc:Hid (∀(i:Nat) (b:Fc),K[i]?=some b->(FQ K)[i]?=some b.cells):=λi t h=>by unfold FQ;rw[Aq,h];rfl
 have HY:=Aa hY
 have HJ:=Aa hJ
 clear hY hJ
 generalize FQ K=LK at *
 refine Qin [] func111 results111 ntmps111 ?_
 refine Bn (st':=C) (.refl _) ?_
 repeat' (first|refine QX ?_|refine QB ?_;intro b|with_reducible refine QZ ?_<;>(try constructor)<;>intro hb<;>try intro hb1|fail)
 refine Bs (ι:=Nat) (λi A st'=>∃C',i<=K.length/\Hid (J i C')/\A.df=[]/\A.e 0=.fn (.yield l) [] []/\A.e 5=.sl .shared LK/\A.e 6=.i K.length/\A.e 7=.i i/\st'=C') (λi=>K.length - i) 0 ⟨C,Ao _,HJ,Qf,Qf,Qf,Qf,Qf,rfl⟩ ?_
 clear HJ
 rintro i A st' ⟨C',hi,HJ,hdf,e0,e5,e6,e7,rfl⟩
 by_cases hlt:i<K.length
 . obtain⟨x,hx⟩:=gEx hlt
   have hxc:=hKc.out i x hx
   clear hKc
   rw[show x.cells=[.i x.id,.i x.time,.i x.tmpl,.i x.ver,.sl .shared (x.s.map V.cells)]from rfl]at hxc
   repeat' (first|refine QV ?_|((with_reducible apply(OP HY.out HJ.out hx));(focus exact q_v);(focus exact q_v);(focus exact q_l);(focus(repeat(first|exact OJ|apply Mo));done);all_goals(intro C' hC'))|refine QY ?_|refine QB ?_;intro b|with_reducible refine QZ ?_<;>(try constructor)<;>intro hb<;>try intro hb1|fail)
   rotate_left
   . exact Bf q_x q_y q_u (LE.refl _) ⟨[],C',rfl,.inr ⟨_,rfl,hC'⟩⟩
   refine⟨i+1,C',q_t,⟨C',hlt,Aa hC',?_,?_,?_,?_,?_,rfl⟩,by omega⟩
   all_goals exact Qf
 . have hil:i=K.length:=by omega
   subst hil
   clear HY hKc
   repeat' (first|refine QX ?_|refine QB ?_;intro b|with_reducible refine QZ ?_<;>(try constructor)<;>intro hb<;>try intro hb1|fail)
   exact Bf q_x q_y q_u (LE.refl _) ⟨[],st',rfl,.inl ⟨rfl,HJ.out⟩⟩
end
end
end Go.Proofs.YtoeidpmjifjplaaGreat
