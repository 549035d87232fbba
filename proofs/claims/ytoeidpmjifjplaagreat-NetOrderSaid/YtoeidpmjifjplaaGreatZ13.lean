/- Texts put together. No statement is proved here. -/
import Derived.Test.YtoeidpmjifjplaaGreatZ12
set_option linter.all false
set_option maxRecDepth 10000
set_option maxHeartbeats 8000000
namespace Go.Proofs.YtoeidpmjifjplaaGreat
open Go.RowKit Tryz
section
attribute [local push_cast] Bs Bn BV V.cells_mk V.cells_len Nat.mul_one Int.sub_zero List.map_nil beq_self_eq_true bne_self_eq_false List.head?_cons
open Go.RowKit B
set_option maxHeartbeats 16000000
theorem Uf(R:List Rl)(hw:∀x∈R,x.Wf)(hl:R.length<=maxLen)(st:St):TrF prog 46 [.sl .shared (R.map Rl.cells)] st λd st'=>d=.b (Rul.great R)/\st'=st:=by
 unfold maxLen at hl
 have hm:(R.map Rl.cells).length=R.length:=Ab ..
 have hc:=hMp Rl.cells R
 replace hw:=Aa hw
 unfold Rul.great
 generalize R.map Rl.cells=LS at *
 by_cases h12:12<R.length
 . rw[decide_eq_true h12,BO]
   refine Qin [2] func46 results46 ntmps46 ?_
   exact WR
 rw[decide_eq_false h12,Bu]
 obtain⟨F,hF⟩:∃F,R.any Rul.gR=F:=⟨_,rfl⟩
 rw[hF]
 have HF:Hid ((R.drop 0).any Rul.gR=F):=hF
 clear hF
 refine Qin [2] func46 results46 ntmps46 ?_
 repeat' (first|refine QX ?_|refine QB ?_;intro b|with_reducible refine QZ ?_<;>(try constructor)<;>intro hb<;>try intro hb1|fail)
 refine Bw (ι:=Nat) (λi A st'=>i<=R.length/\Hid ((R.drop i).any Rul.gR=F)/\A.df=[]/\A.e 0=.sl .shared LS/\A.e 3=.i i/\st=st') (λi=>R.length - i) 0 ⟨Aq _,HF,Qf,Qf,Qf,rfl⟩ ?_
 rintro i A st' ⟨hi,HT,hdf,e0,e3,rfl⟩
 clear HF
 by_cases hlt:¬i<R.length
 . have HE:=HT.out
   rw[AB q_o]at HE
   subst HE
   clear HT
   exact WR
 rw[Classical.not_not]at hlt
 obtain⟨x,hx⟩:=gEx hlt
 have h1:=hc.out i x hx
 have HE:=HT.out
 rw[GA hx]at HE
 have hxw:=hw.out x (Ah hx)
 clear HT hx
 obtain⟨G,hGG⟩:∃G,(R.drop (i+1)).any Rul.gR=G:=⟨_,rfl⟩
 rw[hGG]at HE
 replace hGG:=Aa hGG
 cases x with
|mk nm sal ps ac =>
 unfold Rl.cells at h1
 unfold Rul.gR at HE
 obtain⟨-,hps,hpl,hac,hal⟩:=hxw
 dsimp only at h1 HE hps hpl hac hal
 replace hps:=Aa hps
 replace hac:=Aa hac
 unfold maxLen at hpl hal
 have hmp:(ps.map Pt.cells).length=ps.length:=Ab ..
 have hcp:=hMp Pt.cells ps
 have hma:(ac.map Ac.cells).length=ac.length:=Ab ..
 have hca:=hMp Ac.cells ac
 generalize ps.map Pt.cells=PS at *
 generalize ac.map Ac.cells=AS at *
 by_cases hz:300<nm.size
 . rw[decide_eq_true hz]at HE
   simp only[BO,Di]at HE
   subst HE
   exact WR
 rw[decide_eq_false hz,Bu]at HE
 by_cases hy:8<ps.length
 . rw[decide_eq_true hy]at HE
   simp only[BO,Di]at HE
   subst HE
   exact WR
 rw[decide_eq_false hy,Bu]at HE
 by_cases hv:8<ac.length
 . rw[decide_eq_true hv]at HE
   simp only[BO,Di]at HE
   subst HE
   exact WR
 rw[decide_eq_false hv,Bu]at HE
 rw[Ki]at HE
 replace HE:=Aa HE
 repeat' (first|refine QX ?_|refine QB ?_;intro b|with_reducible refine QZ ?_<;>(try constructor)<;>intro hb<;>try intro hb1|fail)
 refine Bw (ι:=Nat) (λj A st'=>j<=ps.length/\Hid (((ps.drop j).any Rul.gP || (ac.any Rul.gA || G))=F)/\A.df=[]/\A.e 0=.sl .shared LS/\A.e 3=.i i/\A.e 5=.i j/\(∃b:Nat,A.e 4=.ptr b 0/\st'=.box b 34 [.str nm,.i sal,.sl .shared PS,.sl .shared AS]::st)) (λj=>ps.length - j) 0 ⟨Aq _,HE,Qf,Qf,Qf,Qf,_,Qf,rfl⟩ ?_
 clear hdf e0 e3
 rintro j A st' ⟨hj,HT,hdf,e0,e3,e5,b,e4,rfl⟩
 clear HE
 by_cases hlj:j<ps.length
 . obtain⟨p,hp⟩:=gEx hlj
   have k1:=hcp.out j p hp
   have HE:=HT.out
   rw[GA hp,Ki]at HE
   have hpw:=hps.out p (Ah hp)
   clear HT hp
   obtain⟨G2,hG2⟩:∃G2,((ps.drop (j+1)).any Rul.gP || (ac.any Rul.gA || G))=G2:=⟨_,rfl⟩
   rw[hG2]at HE
   replace hG2:=Aa hG2
   cases p with
   | mk tm ng ts =>
   unfold Pt.cells at k1
   unfold Rul.gP at HE
   obtain⟨hts,htl⟩:=hpw
   dsimp only at k1 HE hts htl
   replace hts:=Aa hts
   unfold maxLen at htl
   have hmt:(ts.map Ts.cells).length=ts.length:=Ab ..
   have hct:=hMp Ts.cells ts
   generalize ts.map Ts.cells=TL at *
   by_cases hz:10<ts.length
   . rw[decide_eq_true hz]at HE
     simp only[BO,Di]at HE
     subst HE
     exact WR
   rw[decide_eq_false hz,Bu]at HE
   have HU:Hid (((ts.drop 0).any Rul.gT || G2)=F):=HE
   clear HE
   repeat' (first|refine QX ?_|refine QB ?_;intro b|with_reducible refine QZ ?_<;>(try constructor)<;>intro hb<;>try intro hb1|fail)
   refine Bw (ι:=Nat) (λk A st'=>k<=ts.length/\Hid (((ts.drop k).any Rul.gT || G2)=F)/\A.df=[]/\A.e 0=.sl .shared LS/\A.e 3=.i i/\A.e 5=.i j/\A.e 6=.i k/\(∃b:Nat,A.e 4=.ptr b 0/\st'=.box b 34 [.str nm,.i sal,.sl .shared PS,.sl .shared AS]::st)) (λk=>ts.length - k) 0 ⟨Aq _,HU,Qf,Qf,Qf,Qf,Qf,_,Qf,rfl⟩ ?_
   clear hdf e0 e3 e4 e5
   rintro k A st' ⟨hk,HT,hdf,e0,e3,e5,e6,b,e4,rfl⟩
   clear HU
   by_cases hlk:k<ts.length
   . obtain⟨t,ht⟩:=gEx hlk
     have k2:=hct.out k t ht
     have HE:=HT.out
     rw[GA ht,Ki]at HE
     have hG:=Jn t.val (hts.out t (Ah ht))
     clear HT ht
     unfold Rul.gT at HE
     cases t with
     | mk kd sl vr v =>
     dsimp only at HE hG
     generalize V.great v=g at *
     cases v with
     | mk vk vn vs vl =>
     rw[Ts.cells_mk]at k2
     rw[V.cells_mk]at hG
     replace hG:=Aa hG
     cases g with
     | true =>
      rw[BO]at HE
      subst HE
      exact WR
     | false =>
      rw[Bu]at HE
      replace HE:=Aa HE
      repeat' (first|refine QX ?_|refine QB ?_;intro b|with_reducible refine QZ ?_<;>(try constructor)<;>intro hb<;>try intro hb1|fail)
      refine⟨k+1,.box b 34 [.str nm,.i sal,.sl .shared PS,.sl .shared AS]::st,q_u,⟨hlk,HE,?_,?_,?_,?_,?_,b,?_,rfl⟩,by omega⟩
      all_goals exact Qf
   . have HE:=HT.out
     rw[AB q_o,Hh,Bu]at HE
     replace HE:=Aa (hG2.out.trans HE)
     clear HT hG2
     repeat' (first|refine QX ?_|refine QB ?_;intro b|with_reducible refine QZ ?_<;>(try constructor)<;>intro hb<;>try intro hb1|fail)
     refine⟨j+1,.box b 34 [.str nm,.i sal,.sl .shared PS,.sl .shared AS]::st,q_u,⟨hlj,HE,?_,?_,?_,?_,b,?_,rfl⟩,by omega⟩
     all_goals exact Qf
 have HE:=HT.out
 rw[AB q_o,Hh,Bu]at HE
 replace HE:=Aa HE
 clear HT
 repeat' (first|refine QX ?_|refine QB ?_;intro b|with_reducible refine QZ ?_<;>(try constructor)<;>intro hb<;>try intro hb1|fail)
 refine Bw (ι:=Nat) (λj A st'=>j<=ac.length/\Hid (((ac.drop j).any Rul.gA || G)=F)/\A.df=[]/\A.e 0=.sl .shared LS/\A.e 3=.i i/\A.e 7=.i j/\(∃b:Nat,A.e 4=.ptr b 0/\st'=.box b 34 [.str nm,.i sal,.sl .shared PS,.sl .shared AS]::st)) (λj=>ac.length - j) 0 ⟨Aq _,HE,Qf,Qf,Qf,Qf,_,Qf,rfl⟩ ?_
 clear hdf e0 e3 e4 e5
 rintro j A st' ⟨hj,HT,hdf,e0,e3,e5,b,e4,rfl⟩
 clear HE
 by_cases hlj:j<ac.length
 . obtain⟨p,hp⟩:=gEx hlj
   have k1:=hca.out j p hp
   have HE:=HT.out
   rw[GA hp,Ki]at HE
   have hpw:=hac.out p (Ah hp)
   clear HT hp
   obtain⟨G2,hG2⟩:∃G2,((ac.drop (j+1)).any Rul.gA || G)=G2:=⟨_,rfl⟩
   rw[hG2]at HE
   replace hG2:=Aa hG2
   cases p with
   | mk kd pt tm sl ts =>
   unfold Ac.cells at k1
   unfold Rul.gA at HE
   obtain⟨hts,htl⟩:=hpw
   dsimp only at k1 HE hts htl
   replace hts:=Aa hts
   unfold maxLen at htl
   have hmt:(ts.map Ex.cells).length=ts.length:=Ab ..
   have hct:=hMp Ex.cells ts
   generalize ts.map Ex.cells=TL at *
   by_cases hz:20<ts.length
   . rw[decide_eq_true hz]at HE
     simp only[BO,Di]at HE
     subst HE
     exact WR
   rw[decide_eq_false hz,Bu]at HE
   have HU:Hid (((ts.drop 0).any Rul.gE || G2)=F):=HE
   clear HE
   repeat' (first|refine QX ?_|refine QB ?_;intro b|with_reducible refine QZ ?_<;>(try constructor)<;>intro hb<;>try intro hb1|fail)
   refine Bw (ι:=Nat) (λk A st'=>k<=ts.length/\Hid (((ts.drop k).any Rul.gE || G2)=F)/\A.df=[]/\A.e 0=.sl .shared LS/\A.e 3=.i i/\A.e 7=.i j/\A.e 8=.i k/\(∃b:Nat,A.e 4=.ptr b 0/\st'=.box b 34 [.str nm,.i sal,.sl .shared PS,.sl .shared AS]::st)) (λk=>ts.length - k) 0 ⟨Aq _,HU,Qf,Qf,Qf,Qf,Qf,_,Qf,rfl⟩ ?_
   clear hdf e0 e3 e4 e5
   rintro k A st' ⟨hk,HT,hdf,e0,e3,e5,e6,b,e4,rfl⟩
   clear HU
   by_cases hlk:k<ts.length
   . obtain⟨t,ht⟩:=gEx hlk
     have k2:=hct.out k t ht
     have HE:=HT.out
     rw[GA ht,Ki]at HE
     have hG:=Jn t.val (hts.out t (Ah ht))
     clear HT ht
     unfold Rul.gE at HE
     cases t with
     | mk iv vr v =>
     dsimp only at HE hG
     generalize V.great v=g at *
     cases v with
     | mk vk vn vs vl =>
     rw[Ex.cells_mk]at k2
     rw[V.cells_mk]at hG
     replace hG:=Aa hG
     cases g with
     | true =>
      rw[BO]at HE
      subst HE
      exact WR
     | false =>
      rw[Bu]at HE
      replace HE:=Aa HE
      repeat' (first|refine QX ?_|refine QB ?_;intro b|with_reducible refine QZ ?_<;>(try constructor)<;>intro hb<;>try intro hb1|fail)
      refine⟨k+1,.box b 34 [.str nm,.i sal,.sl .shared PS,.sl .shared AS]::st,q_u,⟨hlk,HE,?_,?_,?_,?_,?_,b,?_,rfl⟩,by omega⟩
      all_goals exact Qf
   . have HE:=HT.out
     rw[AB q_o,Hh,Bu]at HE
     replace HE:=Aa (hG2.out.trans HE)
     clear HT hG2
     repeat' (first|refine QX ?_|refine QB ?_;intro b|with_reducible refine QZ ?_<;>(try constructor)<;>intro hb<;>try intro hb1|fail)
     refine⟨j+1,.box b 34 [.str nm,.i sal,.sl .shared PS,.sl .shared AS]::st,q_u,⟨hlj,HE,?_,?_,?_,?_,b,?_,rfl⟩,by omega⟩
     all_goals exact Qf
 have HE:=HT.out
 rw[AB q_o,Hh,Bu]at HE
 replace HE:=Aa (hGG.out.trans HE)
 clear HT hGG
 repeat' (first|refine QX ?_|refine QB ?_;intro b|with_reducible refine QZ ?_<;>(try constructor)<;>intro hb<;>try intro hb1|fail)
 refine⟨i+1,st,q_u,⟨hlt,HE,?_,?_,?_,rfl⟩,by omega⟩
 all_goals exact Qf
end
section
attribute [local push_cast] Bs Bn BV V.cells_mk V.cells_len Nat.mul_one Int.sub_zero List.map_nil beq_self_eq_true bne_self_eq_false List.head?_cons Bool.not_true Bool.not_false Nat.zero_add
set_option maxHeartbeats 16000000
end
section
attribute [local push_cast] Bs Bn BV V.cells_mk V.cells_len Nat.mul_one Int.sub_zero List.map_nil beq_self_eq_true bne_self_eq_false List.head?_cons Bool.not_true Bool.not_false Nat.zero_add
section
set_option maxHeartbeats 16000000
structure Ak where
 kind:Int
 id:Int
 f:Fc
def Ak.cells (a:Ak):List D:=[.i a.kind,.i a.id]++a.f.cells
structure Ak.Wf (a:Ak):Prop where
 i : -9223372036854775808<=a.id/\a.id<=9223372036854775807
 f:a.f.Wf
theorem eB:Fw prog 66 Ak.cells Ak.Wf:=by
 intro n H enc W fuel cs x hf h
 obtain⟨xs,m,rfl, -,hl,hn,hx⟩:=CK Tryz.underlying66 h
 have hl2:cs.length=7:=hl.trans (by kernel_rfl)
 obtain⟨a,a1,a2⟩:=Be (i:=0) (n:=m) (f:=λa:Int=>[D.i a]) hx hn rfl (k:=1) (by kernel_rfl) (Cy (k:=.i64) Tryz.underlying3 _) (Ap _)
 obtain⟨b,b1,b2⟩:=Be (i:=1) (n:=m) (f:=λa:Int=>[D.i a]) hx hn rfl (k:=1) (by kernel_rfl) (Cy (k:=.i64) Tryz.underlying3 _) (Ap _)
 obtain⟨c,c1,c2⟩:=Be (i:=2) (n:=m) (f:=Fc.cells) hx hn rfl (k:=5) (by kernel_rfl) (ey _) (Ap _)
 refine⟨⟨a,b,c⟩,?_,FH b2,c2⟩
 have:=RepL.glue a1 (RepL.glue b1 (RepL.glue c1 (RepL.glue_end hl2)))
 rw[Bi]at this
 exact this
theorem Ul:Fw prog 58 (λl:List Ak=>[D.sl .shared (l.map Ak.cells)]) λl=>(∀x∈l,x.Wf)/\l.length<=maxLen :=
 Dx (sz:=7) Tryz.underlying58 (by kernel_rfl) q_o eB (λ_=>rfl) λt d hd=>by
  unfold Ak.cells Fc.cells at hd
  simp only[AJ,AO,Az,AU,or_false]at hd
  rcases hd with rfl|rfl|rfl|rfl|rfl|rfl|rfl<;>rfl
namespace Mat
def actB (S:List Int)(a:Ak):Bool:=!(decide (a.kind=0)) || right S [a.f]
def actsB (S:List Int):List Ak->Bool
|[]=>true
|a::l=>!(a.f.s.any V.great) && (actB S a && actsB S l)
def may19 (L:List Tm)(R:List Rl)(A:List Ak):Bool:=!(Reg.great L || Rul.great R) && (Rul.right L R && (decide (A.length<=40) && actsB (slotN L) A))
theorem Nv{S:List Int}:∀{A:List Ak},actsB S A=true->∀a∈A,(a.f.s.any V.great)=false/\actB S a=true
|[],_,a,h=>by cases h
|b::l,h,a,ha=>by
  unfold actsB at h
  simp only[AH,CL]at h
  rcases Az.1 ha with rfl|ha
  . exact⟨h.1,h.2.1⟩
  . exact Nv h.2.2 a ha
structure May19 (R:List Rl)(A:List Ak):Prop where
 rl:R.length<=8
 rn:∀x∈R,1<=x.pats.length/\x.pats.length<=4
 xk:∀x∈R,XK x
 al:A.length<=40
 fk:∀a∈A,a.kind=0->FK a.f/\a.f.id≠0/\1<=a.f.id
 fr:∀a∈A,a.kind=0->FcR a.f
 bd:∀a∈A,(-9223372036854775808<=a.id/\a.id<=9223372036854775807) /\ -9223372036854775808<=a.f.id/\a.f.id<=9223372036854775807
theorem may19_iff{L:List Tm}{R:List Rl}{A:List Ak}(hw:∀x∈R,x.Wf)(hf:∀a∈A,a.Wf)(h:may19 L R A=true):May19 R A:=by
 unfold may19 at h
 simp only[AH,CL,BU,decide_eq_true_eq]at h
 obtain⟨⟨h1,h2⟩,h3,h4,h5⟩:=h
 obtain⟨-,hk⟩:=Rul.not_great hw h2
 obtain⟨r1,r2,r3, -⟩:=Rul.right_iff.1 h3
 have hh:∀x∈R,1<=x.pats.length/\x.pats.length<=4:=λx hx=>by
  have:=r3 x hx
  unfold Rul.oneB Rul.headB at this
  simp only[AH,decide_eq_true_eq]at this
  exact this.1.2.2.1
 have hv:∀a∈A,∀x∈a.f.s,x.Ok/\x.nodes<=1000/\x.deep<=10:=λa h x hx=>by
  have:=(Nv h5 a h).1
  have:=DD.1 this x hx
  rw[Gc]at this
  exact⟨(hf a h).f.v x hx,V.not_great this⟩
 have hd:∀a∈A,a.kind=0->headB (slotN L) a.f=true:=λa ha hk0=>by
  have:=(Nv h5 a ha).2
  unfold actB at this
  rw[decide_eq_true hk0,Fg,Bu]at this
  exact(YF this).2 a.f (Ag ..)
 have hs:∀a∈A,a.kind=0->a.f.s.length<=1000000:=λa ha hk0=>by
  obtain⟨-,h1,h2,h3⟩:=headB_iff.1 (hd a ha hk0)
  rw[slotN_len]at h2
  have e0:a.f.tmpl.toNat<L.length:=by omega
  have e:(slotN L)[a.f.tmpl.toNat]?=some ((Rul.slots L a.f.tmpl.toNat).length:Int):=by
   unfold slotN
   rw[Ar,Vt e0]
   rfl
  rw[AX,e,JT]at h3
  have:=Rul.slots_le L a.f.tmpl.toNat
  omega
 refine⟨r2,hh,λx hx=>⟨λp hp=>⟨λt ht=>V.Ok.bg ((hk x hx).vt p hp t ht).ok,by have:=(hk x hx).nt p hp;omega⟩,by have:=(hh x hx).2;omega⟩,h4,λa ha hk0=>?_,λa ha hk0=>⟨λx hx=>⟨(hv a ha x hx).1,(hv a ha x hx).2.1,by have:=(hv a ha x hx).2.2;omega⟩,(hf a ha).f.l⟩,λa ha=>⟨(hf a ha).i,(hf a ha).f.id⟩⟩
 have h1:=(headB_iff.1 (hd a ha hk0)).1
 exact⟨⟨λx hx=>⟨(hv a ha x hx).1,(hv a ha x hx).2.1⟩,hs a ha hk0⟩,by omega,h1⟩
theorem actsB_drop{S:List Int}{A:List Ak}{i:Nat}{a:Ak}(h:A[i]?=some a):actsB S (A.drop i)=(!(a.f.s.any V.great) && (actB S a && actsB S (A.drop (i+1)))):=by
 rw[V.drop_cons h,actsB]
end Mat
theorem bP(L:List Tm)(R:List Rl)(F:List Ak)(hwL:∀t∈L,t.Wf)(hlL:L.length<=maxLen)(hwR:∀x∈R,x.Wf)(hlR:R.length<=maxLen)(hwF:∀f∈F,f.Wf)(hlF:F.length<=maxLen)(st:St):TrF prog 31 [.sl .shared (L.map Tm.cells),.sl .shared (R.map Rl.cells),.sl .shared (F.map Ak.cells)] st λd st'=>d=.b (Mat.may19 L R F)/\st'=st:=by
 have hG1:=Ug L hwL hlL
 have hG2:=Uf R hwR hlR
 unfold Mat.may19
 have hFm:(F.map Ak.cells).length=F.length:=Ab ..
 have hlF2:=hlF
 unfold maxLen at hlF2
 cases h1:Reg.great L with
|true =>
  rw[h1]at hG1
  rw[BO,Fg,Av]
  clear hwL hwR hwF h1 hG2 hlL hlR hlF
  generalize L.map Tm.cells=LS at *
  generalize R.map Rl.cells=RS at *
  generalize F.map Ak.cells=FS at *
  replace hG1:=Aa hG1
  refine Qin [6] func31 results31 ntmps31 ?_
  repeat' (first|refine QX ?_|(refine QB ?_;intro b)|refine QP ?_;intro o' ho'|(with_reducible refine QZ ?_<;>(try constructor)<;>intro hb<;>try intro hb1)|refine Qc call45 ((hG1.out _)) ?_|fail)
  all_goals exact Cf
|false =>
 rw[Bu]
 obtain⟨hl12,hkn⟩:=Reg.not_great hwL h1
 rw[h1]at hG1
 clear h1 hwL
 cases h2:Rul.great R with
|true =>
  rw[h2]at hG2
  rw[Fg,Av]
  clear hwR hwF h2 hlL hlR hlF hkn
  generalize L.map Tm.cells=LS at *
  generalize R.map Rl.cells=RS at *
  generalize F.map Ak.cells=FS at *
  replace hG1:=Aa hG1
  replace hG2:=Aa hG2
  refine Qin [6] func31 results31 ntmps31 ?_
  repeat' (first|refine QX ?_|(refine QB ?_;intro b)|refine QP ?_;intro o' ho'|(with_reducible refine QZ ?_<;>(try constructor)<;>intro hb<;>try intro hb1)|refine Qc call45 ((hG1.out _)) ?_|refine Qc call46 ((hG2.out _)) ?_|fail)
  all_goals exact Cf
|false =>
 rw[GY,AI]
 obtain⟨hr12,hrk⟩:=Rul.not_great hwR h2
 rw[h2]at hG2
 clear h2 hwR
 have hok:∀t∈L,TOk t:=λt h=>(hkn t h).ok
 have hRt:=VO L hok q_o R hrk q_o
 cases h3:Rul.right L R with
|false =>
  rw[h3]at hRt
  rw[Av]
  clear hwF h3 hlL hlR hlF hkn hrk hok
  generalize L.map Tm.cells=LS at *
  generalize R.map Rl.cells=RS at *
  generalize F.map Ak.cells=FS at *
  replace hG1:=Aa hG1
  replace hG2:=Aa hG2
  replace hRt:=Aa hRt
  refine Qin [6] func31 results31 ntmps31 ?_
  repeat' (first|refine QX ?_|(refine QB ?_;intro b)|refine QP ?_;intro o' ho'|(with_reducible refine QZ ?_<;>(try constructor)<;>intro hb<;>try intro hb1)|refine Qc call45 ((hG1.out _)) ?_|refine Qc call46 ((hG2.out _)) ?_|refine Qc call47 ((hRt.out _)) ?_|fail)
  all_goals exact Cf
|true =>
 rw[h3]at hRt
 rw[AI]
 clear h3 hrk
 by_cases h7:40<F.length
 . rw[decide_eq_false q_o,Av]
   clear hwF hlL hlR hlF hkn hok
   generalize L.map Tm.cells=LS at *
   generalize R.map Rl.cells=RS at *
   generalize F.map Ak.cells=FS at *
   replace hG1:=Aa hG1
   replace hG2:=Aa hG2
   replace hRt:=Aa hRt
   refine Qin [6] func31 results31 ntmps31 ?_
   repeat' (first|refine QX ?_|(refine QB ?_;intro b)|refine QP ?_;intro o' ho'|(with_reducible refine QZ ?_<;>(try constructor)<;>intro hb<;>try intro hb1)|refine Qc call45 ((hG1.out _)) ?_|refine Qc call46 ((hG2.out _)) ?_|refine Qc call47 ((hRt.out _)) ?_|fail)
   all_goals exact Cf
 rw[decide_eq_true q_o,AI]
 have hSl:=Aa λ(i:Nat)=>JL L hok q_o i
 have hSm:=Aa λ(i:Nat)=>Rul.slots_le L i
 have hLm:(L.map Tm.cells).length=L.length:=Ab ..
 have hRg:Hid (∀a∈F,(a.f.s.any V.great)=false->∀(o1 o:Own) (st:St),TrF prog 49 [.sl o1 [a.f.cells],.sl o ((Mat.slotN L).map Bn)] st λd st'=>d=.b (Mat.right (Mat.slotN L) [a.f])/\st'=st):=λa ha hg o1 o st=>by
  have h1:=Ue [a.f] (Mat.slotN L) (λ_ f hf=>by
   rw[Ay]at hf
   subst hf
   exact⟨λx hx=>by
    have h2:=DD.1 hg x hx
    rw[Gc]at h2
    have h3:=V.not_great h2
    exact⟨(hwF a ha).f.v x hx,h3.1,by omega⟩,(hwF a ha).f.l⟩) (by unfold maxLen;simp) (by rw[Mat.slotN_len];omega) o st
  exact TrF.le h1 ⟨LE.sl _ _,LEL.refl _⟩
 obtain⟨og,hog⟩:∃og:Nat->List (List D),og=λi=>((Mat.slotN L).take i).map Bn:=⟨_,rfl⟩
 have h0:og 0=[]:=by rw[hog];rfl
 have hst:Hid (∀i,i<L.length->og (i+1)=og i++[[.i (Rul.slots L i).length]]):=λi h=>by
  have e:(Mat.slotN L)[i]?=some ((Rul.slots L i).length:Int):=by
   unfold Mat.slotN
   rw[Ar,Vt h]
   rfl
  rw[hog]
  dsimp only
  rw[Br,e,BQ,Bo]
  rfl
 have hend:Hid (og L.length=(Mat.slotN L).map Bn):=by
  rw[hog]
  dsimp only
  rw[Bf (mW (Mat.slotN_len L))]
  exact Aa rfl
 have hol:Hid (∀i,(og i).length<=12):=λi=>by
  rw[hog]
  dsimp only
  rw[Ab,Bb,Mat.slotN_len]
  omega
 have ho1:Hid (∀i,∀a∈og i,a.length=1):=λi a ha=>by
  rw[hog]at ha
  obtain⟨x, -,rfl⟩:=Ax.1 ha
  rfl
 have hFc:=hMp Ak.cells F
 replace hwF:=Aa hwF
 rw[<-hend.out]at hRg
 clear hog hend hok hkn hlL hlR hlF
 obtain⟨SN,hSN⟩:∃SN,Mat.slotN L=SN:=⟨_,rfl⟩
 rw[hSN]at hRg |-
 clear hSN
 obtain⟨T,hT⟩:∃T,Mat.actsB SN F=T:=⟨_,rfl⟩
 rw[hT]
 have HT:Hid (Mat.actsB SN (F.drop 0)=T):=hT
 clear hT
 generalize L.map Tm.cells=LS at *
 generalize R.map Rl.cells=RS at *
 generalize F.map Ak.cells=FS at *
 replace hG1:=Aa hG1
 replace hG2:=Aa hG2
 replace hRt:=Aa hRt
 refine Qin [6] func31 results31 ntmps31 ?_
 refine JC 3 1 (og 0).length ?_
 rw[h0]
 repeat' (first|refine QX ?_|(refine QB ?_;intro b)|refine QP ?_;intro o' ho'|(with_reducible refine QZ ?_<;>(try constructor)<;>intro hb<;>try intro hb1)|refine Qc call45 ((hG1.out _)) ?_|refine Qc call46 ((hG2.out _)) ?_|refine Qc call47 ((hRt.out _)) ?_|fail)
 refine Bw (ι:=Nat) (λi A st'=>i<=L.length/\A.df=[]/\A.e 0=.sl .shared LS/\A.e 2=.sl .shared FS/\A.e 8=.i i/\∃o2,o2≠.shared/\A.e 7=.sl o2 (og i)/\st'=.room o2 3 1 (og i).length::st) (λi=>L.length - i) 0 ⟨Aq _,Qf,Qf,Qf,Qf,.tight,Md,by rw[h0];exact Qf,by rw[h0]⟩ ?_
 clear h0 hG1 hG2 hRt
 rintro i A st' ⟨hi,hdf,e0,e2,e8,o2,ho2,e7,rfl⟩
 by_cases hlt:i<L.length
 . have hC:=Aa (hSl.out i)
   have hs:=Aa (hst.out i hlt)
   have hl1:=hol.out i
   have hl3:=ho1.out i
   have hn:=hSm.out i
   have hCm:((Rul.slots L i).map Sl.cells).length=(Rul.slots L i).length:=Ab ..
   clear hSl hst hol ho1 hSm hFc hwF hRg HT
   generalize (Rul.slots L i).map Sl.cells=SC at *
   generalize (Rul.slots L i).length=n at *
   obtain⟨OG,hOG⟩:∃OG,OG=og i:=⟨_,rfl⟩
   rw[<-hOG]at hl1 hl3 e7 hs |-
   clear hOG
   repeat' (first|refine QV ?_|((with_reducible refine FU [] ?_ ?_ ?_ ?_ ?_);(iterate 3 (focus kernel_rfl));(focus((repeat(first|exact BP|refine Cp q_m ?_));done)))|((with_reducible refine And.intro ?_ ?_);(focus exact q_k))|refine QY ?_|(refine QB ?_;intro b)|refine QP ?_;intro o' ho'|(with_reducible refine QZ ?_<;>(try constructor)<;>intro hb<;>try intro hb1)|refine Qc call48 ((hC.out _)) ?_|fail)
   refine⟨i+1,.room o' 3 1 (OG++[[D.i n]]).length::st,q_t,⟨hlt,?_,?_,?_,?_,o',ho',?_,by rw[hs.out]⟩,by omega⟩
   all_goals first|(rw[hs.out];exact Qf)|exact Qf
 have hil:i=L.length:=by omega
 subst hil
 clear hSl hst hol ho1 hSm
 repeat' (first|refine QX ?_|(refine QB ?_;intro b)|refine QP ?_;intro o' ho'|(with_reducible refine QZ ?_<;>(try constructor)<;>intro hb<;>try intro hb1)|fail)
 refine Bw (ι:=Nat) (λi A st'=>i<=F.length/\Hid (Mat.actsB SN (F.drop i)=T)/\A.df=[]/\A.e 2=.sl .shared FS/\A.e 9=.i i/\A.e 7=.sl o2 (og L.length)/\st'=.room o2 3 1 (og L.length).length::st) (λi=>F.length - i) 0 ⟨Aq _,HT,Qf,Qf,Qf,Qf,rfl⟩ ?_
 clear HT hdf e0 e2 e7 e8
 rintro i A st' ⟨hi,HT,hdf,e2,e9,e7,rfl⟩
 by_cases hlt:i<F.length
 . obtain⟨a,hf⟩:=gEx hlt
   have hfc:=hFc.out i a hf
   have ham:=Ah hf
   have hfw:=(hwF.out a ham).f
   have HE:=HT.out
   rw[Mat.actsB_drop hf]at HE
   have hRa:=hRg.out a ham
   have hVm:(a.f.s.map V.cells).length=a.f.s.length:=Ab ..
   have hVc:=hMp V.cells a.f.s
   have hVg:Hid (∀x∈a.f.s,∀st,TrF prog 16 [.agg x.cells] st λd st'=>d=.b x.great/\st'=st):=λx hx st=>Jn x (hfw.v x hx) st
   have hfl:=hfw.l
   unfold maxLen at hfl
   unfold Mat.actB at HE
   rw[show a.cells=[.i a.kind,.i a.id,.i a.f.id,.i a.f.time,.i a.f.tmpl,.i a.f.ver,.sl .shared (a.f.s.map V.cells)]from rfl]at hfc
   rw[show a.f.cells=[.i a.f.id,.i a.f.time,.i a.f.tmpl,.i a.f.ver,.sl .shared (a.f.s.map V.cells)]from rfl]at hRa
   clear HT hFc hwF hf hfw hRg ham
   obtain⟨G,hGG⟩:∃G,Mat.actsB SN (F.drop (i+1))=G:=⟨_,rfl⟩
   rw[hGG]at HE
   replace hGG:=Aa hGG
   obtain⟨Q,hQ⟩:∃Q,Mat.right SN [a.f]=Q:=⟨_,rfl⟩
   rw[hQ]at HE hRa
   clear hQ
   generalize a.f.s=vs at *
   generalize a.kind=kd at *
   generalize a.id=ai at *
   generalize a.f.id=f0 at *
   generalize a.f.time=f1 at *
   generalize a.f.tmpl=f2 at *
   generalize a.f.ver=f3 at *
   generalize vs.map V.cells=VS at *
   generalize og L.length=OG at *
   have HV:Hid ((!((vs.drop 0).any V.great) && ((!(decide (kd=0)) || Q) && G))=T):=HE
   replace hRa:Hid (((vs.drop 0).any V.great)=false->_):=hRa
   clear HE
   repeat' (first|refine QX ?_|(refine QB ?_;intro b)|refine QP ?_;intro o' ho'|(with_reducible refine QZ ?_<;>(try constructor)<;>intro hb<;>try intro hb1)|fail)
   refine Bw (ι:=Nat) (λk A2 st2=>k<=vs.length/\Hid ((!((vs.drop k).any V.great) && ((!(decide (kd=0)) || Q) && G))=T)/\Hid (((vs.drop 0).any V.great)=((vs.drop k).any V.great))/\A2.df=[]/\A2.e 2=.sl .shared FS/\A2.e 9=.i i/\A2.e 7=.sl o2 OG/\A2.e 10=.ptr b 0/\A2.e 11=.i k/\st2=.box b 43 [.i f0,.i f1,.i f2,.i f3,.sl .shared VS]::.room o2 3 1 OG.length::st) (λk=>vs.length - k) 0 ⟨Aq _,HV,Aa rfl,Qf,Qf,Qf,Qf,Qf,Qf,rfl⟩ ?_
   clear HV hdf e2 e9 e7
   rintro k A2 st2 ⟨hk,HK,HZ,hdf,e2,e9,e7,e10,e11,rfl⟩
   by_cases hkl:k<vs.length
   . obtain⟨x,hx⟩:=gEx hkl
     have hxc:=hVc.out k x hx
     have hxr:=hVg.out x (Ah hx)
     have HE:=HK.out
     have HZ2:=HZ.out
     rw[GA hx]at HE HZ2
     clear HK hVc hVg hx HZ hRa
     cases x with
     | mk k1 n1 s1 l1 =>
     rw[V.cells_mk]at hxc hxr
     generalize l1.map V.cells=L1 at *
     cases hq:V.great (V.mk k1 n1 s1 l1)with
     | true =>
      rw[hq,BO,Fg,Av]at HE
      rw[hq]at hxr
      subst HE
      clear hq HZ2
      replace hxr:=Aa hxr
      repeat' (first|refine QX ?_|(refine QB ?_;intro b)|refine QP ?_;intro o' ho'|(with_reducible refine QZ ?_<;>(try constructor)<;>intro hb<;>try intro hb1)|refine Qc call16 ((hxr.out _)) ?_|fail)
      all_goals exact Cf
     | false =>
      rw[hq,Bu]at HE HZ2
      rw[hq]at hxr
      clear hq
      replace hxr:=Aa hxr
      replace HE:=Aa HE
      replace HZ2:=Aa HZ2
      repeat' (first|refine QX ?_|(refine QB ?_;intro b)|refine QP ?_;intro o' ho'|(with_reducible refine QZ ?_<;>(try constructor)<;>intro hb<;>try intro hb1)|refine Qc call16 ((hxr.out _)) ?_|fail)
      refine⟨k+1,.box b 43 [.i f0,.i f1,.i f2,.i f3,.sl .shared VS]::.room o2 3 1 OG.length::st,q_u,⟨hkl,HE,HZ2,?_,?_,?_,?_,?_,?_,rfl⟩,by omega⟩
      all_goals exact Qf
   . have HE:=HK.out
     have HZ2:=HZ.out
     have hdk:vs.drop k=[]:=AB q_o
     rw[hdk,Hh]at HE HZ2
     rw[GY,AI]at HE
     have hR:=Aa (hRa.out HZ2)
     clear HK hVc hVg HZ HZ2 hRa
     by_cases hk0:kd=0
     . rw[decide_eq_true hk0,Fg,Bu]at HE
       subst hk0
       cases Q with
       | false =>
        rw[Av]at HE
        subst HE
        clear hGG
        repeat' (first|refine QX ?_|(refine QB ?_;intro b)|refine QP ?_;intro o' ho'|(with_reducible refine QZ ?_<;>(try constructor)<;>intro hb<;>try intro hb1)|refine Qc call49 ((hR.out _ _ _)) ?_|fail)
        all_goals exact Cf
       | true =>
        rw[AI]at HE
        replace HE:=Aa (hGG.out.trans HE)
        clear hGG
        repeat' (first|refine QX ?_|(refine QB ?_;intro b)|refine QP ?_;intro o' ho'|(with_reducible refine QZ ?_<;>(try constructor)<;>intro hb<;>try intro hb1)|refine Qc call49 ((hR.out _ _ _)) ?_|fail)
        refine⟨i+1,.room o2 3 1 OG.length::st,q_t,⟨hlt,HE,?_,?_,?_,?_,rfl⟩,by omega⟩
        all_goals exact Qf
     . rw[decide_eq_false hk0,GY,BO,AI]at HE
       replace HE:=Aa (hGG.out.trans HE)
       clear hGG hR
       repeat' (first|refine QX ?_|(refine QB ?_;intro b)|refine QP ?_;intro o' ho'|(with_reducible refine QZ ?_<;>(try constructor)<;>intro hb<;>try intro hb1)|fail)
       refine⟨i+1,.room o2 3 1 OG.length::st,q_t,⟨hlt,HE,?_,?_,?_,?_,rfl⟩,by omega⟩
       all_goals exact Qf
 . have HE:=HT.out
   rw[AB q_o]at HE
   have HE:true=T:=HE
   subst HE
   clear HT hFc hwF hRg
   generalize og L.length=OG at *
   exact WRa
end
end
section
section
variable {P:Program} {r:Option Nat} {A:AA} {st:St} {k:D->St->Prop} {dst:Option Tmp} {ty:TypeId} {pos:String} {aft:Array Edge} {gd:Option (Nat×Bool)} {t t':TypeId} {x:Operand}
theorem Jj{b off:Nat}(ht:VX P t=true)(hx:ev A.e x=some (.ptr b off))(hk:k (.b false) st):S P r none ⟨dst,.binOp .eql t x (.const (.pointer none)) t',ty,pos,aft,gd⟩ A st k:=dT (a:=some ⟨b,off,none⟩) ht hx rfl hk
end
theorem MemP.cells3(M:MemP)(n:Nat):∃a b c,M.cells n=[a,b,c]:=by cases M<;>exact⟨_,_,_,rfl⟩
def FQ (N:NT)(M:MemP)(F:List Fc)(cs:List NC):St:=.box N.b 105 (.sl .shared N.row::M.cells F.length)::(M.resF F++cs.flatMap NC.st)
theorem JN(N:NT):FQ N N.fm N.fs N.cs=N.st:=rfl
theorem Id(N:NT)(M:MemP)(F:List Fc)(cs:List NC)(s:St):FQ N M F cs++s=.box N.b 105 ([.sl .shared N.row]++(M.cells F.length++[]))::(M.resF F++(cs.flatMap NC.st++s)):=by
 unfold FQ
 rw[Bi,AJ,Ai]
 rfl
theorem SR(N:NT)(R:List Rl)(id:Int)(h:N.Ok R)(st:St):TrF prog 64 [.ptr N.b 1,.i id] (N.st++st) λd st'=>d=IA (Mat.find N.fs id)/\st'=N.st++st:=by
 have h1:=XN N.b 105 [.sl .shared N.row] [] N.fm N.fs id h.fok (by have:=h.fl;omega) (N.cs.flatMap NC.st++st)
 rw[<-JN,Id]
 exact h1
theorem eO(N:NT)(R:List Rl)(f:Fc)(h:N.Ok R)(hid:f.id∉N.fs.map Fc.id)(st:St):TrF prog 65 [.ptr N.b 1,.i f.id,.agg f.cells] (N.st++st) λd st'=>∃M':MemP,M'.okF (N.fs++[f])/\d=.tup []/\(FQ N M' (N.fs++[f]) N.cs++st).Perm st':=by
 have h1:=XL N.b 105 [.sl .shared N.row] [] N.fm N.fs f h.fok hid (by have:=h.fl;omega) (N.cs.flatMap NC.st++st)
 rw[<-JN,Id]
 refine h1.mono λd st' ⟨M',a1,a2,a3⟩=>⟨M',a1,a2,?_⟩
 rw[Id,Ae,BM]
 exact a3
theorem bJ(N:NT)(R:List Rl)(f z:Fc)(i n:Nat)(h:N.Ok R)(hn:N.fs.length=n+1)(hi:N.fs[i]?=some f)(hz:N.fs[n]?=some z)(st:St):TrF prog 68 [.ptr N.b 1,.i f.id] (N.st++st) λd st'=>∃M':MemP,M'.okF (Cv N.fs i z)/\d=.tup []/\(FQ N M' (Cv N.fs i z) N.cs++st).Perm st':=by
 have h1:=Vd N.b 105 [.sl .shared N.row] [] N.fm N.fs f z i n h.fok hn hi hz (by have:=h.fl;omega) (N.cs.flatMap NC.st++st)
 rw[<-JN,Id]
 refine h1.mono λd st' ⟨M',a1,a2,a3⟩=>⟨M',a1,a2,?_⟩
 rw[Id,Jh hn]
 exact a3
theorem Jo{N:NT}{M:MemP}{F:List Fc}{cs:List NC}{i:Nat}{S:NC}(h:cs[i]?=some S)(s:St):(FQ N M F cs++s).Perm (S.st++(.box N.b 105 (.sl .shared N.row::M.cells F.length)::(M.resF F++(((cs.take i).flatMap NC.st++(cs.drop (i+1)).flatMap NC.st)++s)))):=by
 have h1:=(ZK h).append_right s
 rw[Ai]at h1
 unfold FQ
 rw[AJ,Ai]
 refine((h1.append_left _).cons _).trans ?_
 generalize (cs.take i).flatMap NC.st++(cs.drop (i+1)).flatMap NC.st++s=X
 refine(List.Perm.cons _ ?_).trans AG.symm
 rw[<-Ai,<-Ai]
 exact Bk.append_right _
theorem Rg{N:NT}{M:MemP}{F:List Fc}{cs:List NC}{i:Nat}{S S':NC}(h:cs[i]?=some S)(s:St):(FQ N M F (cs.set i S')++s).Perm (S'.st++(.box N.b 105 (.sl .shared N.row::M.cells F.length)::(M.resF F++(((cs.take i).flatMap NC.st++(cs.drop (i+1)).flatMap NC.st)++s)))):=by
 have hil:=(Af.1 h).1
 have h1:=Jo (N:=N) (M:=M) (F:=F) (cs:=cs.set i S') (i:=i) (S:=S') (BB hil) s
 rwa[EI,EO]at h1
end
section
attribute [local push_cast] Bs Bn BV V.cells_mk V.cells_len Nat.mul_one Int.sub_zero List.map_nil beq_self_eq_true bne_self_eq_false List.head?_cons Bool.not_true Bool.not_false Nat.zero_add
attribute [-instance] Ch Cr BL Dl
theorem Wj(N:NT)(R:List Rl)(f:Fc)(h:N.Ok R)(hR:R.length<=1000)(hf:FK f)(h0:f.id≠0)(hl:N.fs.length<1000)(st:St):TrF prog 33 [.ptr N.b 0,.agg f.cells] (N.st++st) λd st'=>∃N':NT,N'.Ok R/\N'.b=N.b/\((f.id∈N.fs.map Fc.id/\N'.fs=N.fs/\d=.b false)\/(f.id∉N.fs.map Fc.id/\N'.fs=N.fs++[f]/\d=.b true))/\(N'.st++st).Perm st':=by
 have hget:=SR N R f.id h st
 have hgetB:∀fb:Res,TrF prog 64 [.ptr N.b 1,.i f.id] (fb::(N.st++st)) λd st'=>d=IA (Mat.find N.fs f.id)/\st'=fb::(N.st++st):=λfb =>
  TrF.permPost AG.symm ((SR N R f.id h (fb::st)).mono λd st' ⟨e1,e2⟩=>⟨_,⟨e1,rfl⟩,by rw[e2];exact AG⟩)
 cases ha:Mat.find N.fs f.id with
|some g =>
  have hin:f.id∈N.fs.map Fc.id:=Ax.2 ⟨g,CY ha,by have:=Gs ha;simpa using this⟩
  have hfin:Hid (∃N':NT,N'.Ok R/\N'.b=N.b/\((f.id∈N.fs.map Fc.id/\N'.fs=N.fs/\D.b false=.b false)\/(f.id∉N.fs.map Fc.id/\N'.fs=N.fs++[f]/\D.b false=.b true))/\(N'.st++st).Perm (N.st++st)):=⟨N,h,rfl,.inl ⟨hin,rfl,rfl⟩,.refl _⟩
  rw[ha]at hget hgetB
  dsimp only[IA]at hget hgetB
  replace hget:=Aa hget
  replace hgetB:=Aa hgetB
  clear ha hin h hf h0 hl hR
  unfold Fc.cells at *
  generalize f.s.map V.cells=VS at *
  generalize g.s.map V.cells=VG at *
  refine Qin [4] func33 results33 ntmps33 ?_
  generalize N.st++st=RS at *
  repeat' (first|refine QV ?_|((with_reducible apply Jj);(focus kernel_rfl);(focus exact q_v))|((with_reducible apply(NX (id:=3) [] 9 5));(iterate 3 (focus kernel_rfl));(focus(repeat(first|exact BP|refine Cp q_m ?_)));(focus exact rfl);(focus(simp only[DT,Ga];rfl)))|((with_reducible refine And.intro ?_ ?_);(focus exact q_k))|((with_reducible apply(EB call64));(focus exact Ao _);(focus exact hget.out);(focus exact LEL.refl _);(focus exact⟨_,_,rfl,rfl⟩);(rintro d2 st2 ⟨rfl,rfl⟩;refine⟨by((repeat(first|exact BP|refine Cp q_m ?_));done),?_⟩))|((with_reducible apply(EB call64));(focus exact Ao _);(focus exact hgetB.out _);(focus exact LEL.refl _);(focus exact⟨_,_,rfl,rfl⟩);(rintro d2 st2 ⟨rfl,rfl⟩;refine⟨by((repeat(first|exact BP|refine Cp q_m ?_));done),?_⟩))|(with_reducible refine DM ?_)|refine QY ?_|refine QB ?_;intro b|with_reducible refine QZ ?_<;>(try constructor)<;>intro hb<;>try intro hb1|fail)
  all_goals exact Bl (by simp) q_y (AL ..) (LE.of_eq q_v) hfin.out
|none =>
  have hnew:f.id∉N.fs.map Fc.id:=λhm=>by
   obtain⟨g,hg,e⟩:=Ax.1 hm
   have:=Dr.1 ha g hg
   simp[e]at this
  rw[ha]at hget hgetB
  dsimp only[IA]at hget hgetB
  obtain⟨W,hW⟩:∃W:MemP->St,W=λM=>M.resF (N.fs++[f])++N.cs.flatMap NC.st++st:=⟨_,rfl⟩
  have hWe:Hid (∀M,.box N.b 105 (.sl .shared N.row::M.cells (N.fs++[f]).length)::W M=FQ N M (N.fs++[f]) N.cs++st):=λM=>by rw[hW];rfl
  have hput:∀fb:Res,TrF prog 65 [.ptr N.b 1,.i f.id,.agg f.cells] (fb::(N.st++st)) λd st'=>∃M':MemP,M'.okF (N.fs++[f])/\d=.tup []/\(fb::.box N.b 105 (.sl .shared N.row::M'.cells (N.fs++[f]).length)::W M').Perm st':=λfb =>
   (TrF.perm AG.symm (eO N R f h hnew (fb::st))).mono λd st' ⟨M',a1,a2,a3⟩=>⟨M',a1,a2,by rw[hWe.out];exact AG.symm.trans a3⟩
  have hE:Hid (∀fb:Res,∃(d:D) (st':St) (M':MemP),M'.okF (N.fs++[f])/\d=.tup []/\(fb::.box N.b 105 (.sl .shared N.row::M'.cells (N.fs++[f]).length)::W M').Perm st'):=λfb=>by
   obtain⟨M0,hM0⟩:=XB h.fok hnew
   exact⟨_,_,M0,hM0,rfl,.refl _⟩
  clear hW
  replace hget:=Aa hget
  replace hgetB:=Aa hgetB
  have HN:=Aa h
  have hf2:=Aa hf
  have h02:=Aa h0
  have hcl:=h.cl
  have hfc:f.cells=[.i f.id,.i f.time,.i f.tmpl,.i f.ver,.sl .shared (f.s.map V.cells)]:=rfl
  clear ha h hf h0
  rw[hfc]at hput |-
  generalize hVS:f.s.map V.cells=VS at *
  obtain⟨RS,hRS⟩:∃RS,RS=N.st++st:=⟨_,rfl⟩
  rw[<-hRS]at hget hgetB |-
  rw[<-hRS]at hput
  have hrl:N.row.length=R.length:=by unfold NT.row;rw[Ab,hcl]
  have hrow:Hid (∀(i:Nat) (S:NC),N.cs[i]?=some S->N.row[i]?=some [.ptr S.c 0]):=λi S h=>by unfold NT.row;rw[Ar,h];rfl
  obtain⟨cl,hcl2⟩:∃cl:MemP->List D,cl=λM=>M.cells (N.fs++[f]).length:=⟨_,rfl⟩
  have hcle:∀M:MemP,M.cells (N.fs++[f]).length=cl M:=λM=>by rw[hcl2]
  simp only[hcle]at hput hE hWe
  clear hcle hcl2 hRS
  obtain⟨ROW,hROW⟩:∃ROW,ROW=N.row:=⟨_,rfl⟩
  rw[<-hROW]at hput hE hWe hrl hrow
  replace hROW:=Aa hROW
  replace hput:=Aa hput
  refine Qin [4] func33 results33 ntmps33 ?_
  repeat' (first|refine QV ?_|((with_reducible apply Jj);(focus kernel_rfl);(focus exact q_v))|((with_reducible apply(NX (id:=3) [] 9 5));(iterate 3 (focus kernel_rfl));(focus(repeat(first|exact BP|refine Cp q_m ?_)));(focus exact rfl);(focus(simp only[DT,Ga];rfl)))|((with_reducible refine And.intro ?_ ?_);(focus exact q_k))|((with_reducible apply(EB call64));(focus exact Ao _);(focus exact hget.out);(focus exact LEL.refl _);(focus exact⟨_,_,rfl,rfl⟩);(rintro d2 st2 ⟨rfl,rfl⟩;refine⟨by((repeat(first|exact BP|refine Cp q_m ?_));done),?_⟩))|((with_reducible apply(EB call64));(focus exact Ao _);(focus exact hgetB.out _);(focus exact LEL.refl _);(focus exact⟨_,_,rfl,rfl⟩);(rintro d2 st2 ⟨rfl,rfl⟩;refine⟨by((repeat(first|exact BP|refine Cp q_m ?_));done),?_⟩))|((with_reducible apply(EB call65));(focus exact Ao _);(focus exact hput.out _);(focus exact LEL.refl _);(focus exact hE.out _);(rintro d2 st2 ⟨M2,hok2,rfl,hp2⟩;refine⟨by((repeat(first|exact BP|refine Cp q_m ?_));done),?_⟩))|((with_reducible refine Bq hp2.symm ?_);clear hp2)|(with_reducible refine DM ?_)|refine QY ?_|refine QB ?_;intro b|with_reducible refine QZ ?_<;>(try constructor)<;>intro hb<;>try intro hb1|fail)
  all_goals clear hget hgetB hput hE
  all_goals
   have hW2:Hid (∀B:Res,(B::.box N.b 105 (.sl .shared ROW::cl M2)::W M2).Perm (B::(FQ N M2 (N.fs++[f]) N.cs++st))):=λB=>by rw[hWe.out]
   refine Bw (ι:=Nat) (λi A st'=>i<=R.length/\A.df=[]/\A.e 3=.ip [.i f.id,.i f.time,.i f.tmpl,.i f.ver,.sl .shared VS]/\A.e 31=.sl .shared ROW/\A.e 32=.i R.length/\A.e 33=.i i/\∃(B:Res) (cs':List NC),Hid (StepC N.cs R N.fs (N.fs++[f]) i cs')/\st'.Perm (B::(FQ N M2 (N.fs++[f]) cs'++st))) (λi=>R.length - i) 0 ⟨Aq _,Qf,Qf,Qf,Qf,Qf,_,N.cs,StepC.zero ..,hW2.out _⟩ ?_
   clear hW2 hWe
   rintro i A st' ⟨hi,hdf,e3,e31,e32,e33,B,cs',HS,hp⟩
   by_cases hlt:i<R.length
   . obtain⟨x,hx⟩:=gEx hlt
     obtain⟨S,hS⟩:∃S,N.cs[i]?=some S:=⟨_,Aj (by rw[hcl];exact hlt)⟩
     have hS2:=(HS.out.todo i (Ap _)).trans hS
     have hC:=HN.out.ch i x S hx hS
     have hrc:=hrow.out i S hS
     obtain⟨RR,hRR⟩:∃RR,RR=Res.box N.b 105 (.sl .shared N.row::M2.cells (N.fs++[f]).length)::(M2.resF (N.fs++[f])++(((cs'.take i).flatMap NC.st++(cs'.drop (i+1)).flatMap NC.st)++st)):=⟨_,rfl⟩
     have hcome:Hid (TrF prog 66 [.ptr S.c 0,.agg [.i f.id,.i f.time,.i f.tmpl,.i f.ver,.sl .shared VS]] (S.st++(B::RR)) λd st0=>∃cs2:List NC,Hid (StepC N.cs R N.fs (N.fs++[f]) (i+1) cs2)/\d=.tup []/\st0.Perm (B::(FQ N M2 (N.fs++[f]) cs2++st))):=by
      have h1:=ky S f hC.str hC.loc hf2.out (by rw[hC.nl];omega) (hC.new hnew) (hC.few hl) (B::RR)
      rw[hfc]at h1
      refine h1.mono λd st0 ⟨S',a1,a2,a3⟩=>⟨cs'.set i S',HS.out.next hx hS a1.c (hC.come a1),a2,?_⟩
      refine a3.symm.trans (AG.trans (List.Perm.cons _ ?_))
      rw[hRR]
      exact(Rg hS2 st).symm
     have hp2:st'.Perm (S.st++(B::RR)):=by
      refine hp.trans (List.Perm.trans (List.Perm.cons _ ?_) AG.symm)
      rw[hRR]
      exact Jo hS2 st
     refine Bq hp2 ?_
     clear hp hp2 hRR HS hC hS hS2 hx hnew hl hrow
     generalize S.st++(B::RR)=ST at *
     generalize S.c=sc at *
     repeat' (first|refine QV ?_|((with_reducible apply(Bj (f:=66) (henter:=call66) (hp:=Ao _) (h:=hcome.out)));(focus exact q_v);(focus exact q_l);(rintro d0 st0 ⟨cs2,hS2,rfl,hp4⟩))|refine QY ?_|refine QB ?_;intro b|with_reducible refine QZ ?_<;>(try constructor)<;>intro hb<;>try intro hb1|fail)
     refine⟨i+1,_,Al _,⟨hlt,?_,?_,?_,?_,?_,B,cs2,hS2,hp4⟩,by omega⟩
     all_goals exact Qf
   . have hil:i=R.length:=by omega
     subst hil
     have hfin:Hid (∃N':NT,N'.Ok R/\N'.b=N.b/\((f.id∈N.fs.map Fc.id/\N'.fs=N.fs/\D.b true=.b false)\/(f.id∉N.fs.map Fc.id/\N'.fs=N.fs++[f]/\D.b true=.b true))/\(N'.st++st).Perm (FQ N M2 (N.fs++[f]) cs'++st)):=by
      refine⟨⟨N.b,cs',M2,N.fs++[f]⟩,⟨hok2,⟨λz hz=>?_,?_⟩,?_,λz hz=>?_,?_,λj x S h1 h2=>HS.out.done j x S (Af.1 h1).1 h1 h2⟩,rfl,.inr ⟨hnew,rfl,rfl⟩,?_⟩
      . rcases Bh.1 hz with hz|hz
        . exact HN.out.fk.f z hz
        . rw[Ay.1 hz];exact hf2.out
      . show(N.fs++[f]).length<=1000000
        rw[Ae,BM];omega
      . show(N.fs++[f]).length<=1000
        rw[Ae,BM];omega
      . rcases Bh.1 hz with hz|hz
        . exact HN.out.f0 z hz
        . rw[Ay.1 hz];exact h02.out
      . exact HS.out.len.trans hcl
      . have h1:(⟨N.b,cs',M2,N.fs++[f]⟩:NT).row=N.row:=HS.out.row_eq
        unfold NT.st NT.cells FQ
        rw[h1]
     refine Bq hp ?_
     clear hp HS HN hf2 h02 hnew hl hrow hok2
     generalize FQ N M2 (N.fs++[f]) cs'++st=ST at *
     repeat' (first|refine QX ?_|refine QB ?_;intro b|with_reducible refine QZ ?_<;>(try constructor)<;>intro hb<;>try intro hb1|fail)
     exact Bl (by simp) q_y (AL ..) (LE.of_eq q_v) hfin.out
end
section
attribute [local push_cast] Bs Bn BV V.cells_mk V.cells_len Nat.mul_one Int.sub_zero List.map_nil beq_self_eq_true bne_self_eq_false List.head?_cons Bool.not_true Bool.not_false Nat.zero_add
section
open Go.RowKit Go.Sort
theorem Rh(a b:Mt)(ha:a.ids.length<=1000000)(hb0:b.ids.length<=1000000)(st:St):TrF prog 71 [.agg a.cells,.agg b.cells] st λd st'=>d=.i (Mat.ord a b)/\st'=st:=by
 have hS:=VJ .shared .shared a.ids b.ids ha hb0
 have hC:=RY a.rule b.rule
 have hO:=λo=>orF o [V.sgn a.rule b.rule,Mat.cmpI a.ids b.ids] (by simp)
 rw[Mat.ord_ors]
 unfold Mt.cells
 generalize V.ors [V.sgn a.rule b.rule,Mat.cmpI a.ids b.ids]=R at *
 rw[Aw,Aw,BF]at hO
 unfold Bn at hO
 generalize V.sgn a.rule b.rule=c1 at *
 generalize Mat.cmpI a.ids b.ids=c2 at *
 generalize a.ids.map Bn=AC at *
 generalize b.ids.map Bn=BC at *
 generalize a.rule=r1 at *
 generalize b.rule=r2 at *
 clear ha hb0
 replace hS:=Aa hS
 replace hC:=Aa hC
 replace hO:=Aa hO
 refine Qin [4] func71 results71 ntmps71 ?_
 repeat' (first|refine QV ?_|((with_reducible refine QW ?_);intro hne;simp only[nes,ne1,and_assoc]at hne;repeat(have hq:=hne.1;replace hne:=hne.2))|refine QY ?_|refine QB ?_;intro b|with_reducible refine QZ ?_<;>(try constructor)<;>intro hb<;>try intro hb1|refine Qc call95 ((hS.out _)) ?_|refine Qc call75 ((hC.out _)) ?_|refine Qc call94 ((hO.out _ _)) ?_|fail)
 all_goals exact Cf
theorem ZF{g : Nat}{ty:TypeId}{cs:List D}{st:St}{w:World}{us:Array Value}[Inhabited (Cell (OwnS (.box g ty cs::st)) w)](hb:w.heap[g]?=some (.cells us ty (0,0)))(n:Nat) :
 CmpLays prog 71 #[] Cell.enc 2 (λx y:Cell (OwnS (.box g ty cs::st)) w=>Mat.ord x.m y.m) g 0 n w:=by
 intro m os dk _ x y
 have he:Ext (OwnS (.box g ty cs::st)) w (OwnS []) (sortWorldK Cell.enc 2 w g 0 m dk os):=by
  unfold sortWorldK putRowK
  exact TG hb m _ os
 generalize sortWorldK Cell.enc 2 w g 0 m dk os=W at he |-
 have hx:∀c:Cell (OwnS (.box g ty cs::st)) w,Rep (OwnS []) W (.agg c.enc.toArray) (.agg c.m.cells):=λc=>by
  have h2:=c.h2.ext he
  have h1:Rep (OwnS []) W c.v1 (.i c.m.rule):=by rw[c.h1];exact .s _ rfl
  have hr:RepL (OwnS []) W c.enc c.m.cells:=RepL.cons h1 (RepL.cons h2 RepL.nil)
  exact .agg _ _ hr.1 hr.2
 have hv:RepL (OwnS []) W (#[Value.agg x.enc.toArray,Value.agg y.enc.toArray]++(#[]:Array Value)).toList [.agg x.m.cells,.agg y.m.cells]:=by
  rw[Array.append_empty]
  exact RepL.cons (hx x) (RepL.cons (hx y) RepL.nil)
 have hcall:=Rh x.m y.m x.hl y.hl [] _ W hv (Nq W)
 refine hcall.mono ?_
 rintro e w' ⟨v,rfl,d,st',h1, -,h3,rfl,rfl⟩
 have hv1:=DE h1
 subst hv1
 exact⟨rfl,Mx h3⟩
theorem bI(g cap:Nat)(l:List Mt)(zs:List D)(hl0:l≠[])(hm:∀m∈l,m.ids.length<=1000000)(hll:l.length<=1000000)(st:St):TrF prog 57 [.ar g 0 l.length cap,.fn (.func 71) [] []] (.box g 52 (Ej l++zs)::st) λd st'=>∃l',l'.Perm l/\Mat.Srt l'/\d=.tup []/\st'=.box g 52 (Ej l'++zs)::st:=by
 intro vs w hv hh
 obtain⟨lv⟩:=vs
 obtain⟨v0,t0,e0,h1,hv⟩:=hv.inv_cons
 obtain⟨v1,t1,e1,h2,hv⟩:=hv.inv_cons
 have e2:=hv.inv_nil
 dsimp only at e0
 subst e2 e1 e0
 cases h1 with
|ar _ _ _ _ c1 c2 =>
 cases h2 with
|fn _ us1 us2 _ _ q1 q2 q3 q4 =>
 obtain rfl:us1=[]:=Au q1
 obtain rfl:us2=[]:=Au q2
 obtain⟨⟨us,hb,hr⟩,hlc⟩:=hh.2 _ (Ag ..)
 have hrt:=hr.take (l.length*2)
 rw[Cl (by rw[Iq];exact Ap _),Bf (l:=Ej l) (by rw[Iq];exact Ap _)]at hrt
 obtain⟨cs,hcm,hcu⟩:=Vj hrt hm
 have hcl:cs.length=l.length:=by
  have:=congrArg List.length hcm
  rwa[Ab]at this
 obtain⟨c0,hc0⟩:∃c0,c0∈cs:=by
  cases cs with
  | nil=>exact absurd hcm.symm hl0
  | cons c cs=>exact⟨c,Ag ..⟩
 haveI:Inhabited (Cell (OwnS (.box g 52 (Ej l++zs)::st)) w):=⟨c0⟩
 have hul:us.size=l.length*2+zs.length:=by
  have:=hr.1
  rw[Ae,Iq,AR]at this
  exact this
 have hfl:(flatK Cell.enc 2 cs.toArray).toList=us.toList.take (l.length*2):=by rw[Pp,hcu]
 have hH:HoldsK Cell.enc 2 w g 0 cs.toArray:=λj hj=>by
  have hj2:j<l.length*2:=by rw[size_flatK]at hj;simpa [hcl]using hj
  refine⟨?_,?_⟩
  . rw[Bt]
    have h3:(flatK Cell.enc 2 cs.toArray).toList[j]?=us.toList[j]?:=by rw[hfl,Dq,if_pos hj2]
    rw[BE,BE,AZ hj,AZ q_o]at h3
    rw[getElem!_pos _ j hj]
    show _=some (id _)
    rw[id,Ci h3]
    have:=cell_of_row w g j us 52 (0,0) hb
    rw[this,AZ q_o]
  . unfold World.frozen?
    dsimp only
    rw[hb];simp
 have hc:=AnyQ.slices_SortFunc Tryz.sortMatch 2 Tryz.isAgg52 Tryz.sizeOf52 Cell.enc (λ_=>rfl) (λx v hv=>by
  rcases Az.1 hv with rfl|hv
  . rw[x.h1];rfl
  . rw[Ay]at hv
    subst hv
    exact x.h2.leafOne rfl) (λx y:Cell (OwnS (.box g 52 (Ej l++zs)::st)) w=>Mat.ord x.m y.m) (mt _ _) 71 #[] g 0 cap cs.toArray w call71 (ZF hb _) hH (AD.1 hb).1 (by simp;omega)
 rw[show cs.toArray.size=l.length by simpa using hcl]at hc
 refine hc.mono ?_
 rintro e w' ⟨rfl,d',n,os,⟨hps, -,hpp⟩,hsrt,rfl⟩
 have hds:d'.size=l.length:=by rw[hps];simpa using hcl
 have hext:∀a:Array (Cell (OwnS (.box g 52 (Ej l++zs)::st)) w),a.size=l.length->(a.extract 0 l.length).toList=a.toList:=λa ha=>by
  rw[oe]
  simp only[Hi,Lp,Ca]
  exact Bf (by rw[AR,ha];exact Ap _)
 rw[hext d' hds,hext cs.toArray (by simpa using hcl)]at hpp
 have hperm:(d'.toList.map Cell.m).Perm l:=(hpp.map Cell.m).trans (Ij hcm)
 have hsort:Mat.Srt (d'.toList.map Cell.m):=by
  refine Fu.2 λi j hi hj hij=>?_
  rw[Ab,AR]at hi hj
  have h3:=hsrt i j (Aq _) hij q_o
  rw[ltM,getElem!_pos _ i hi,getElem!_pos _ j hj]at h3
  rw[Dv,Dv,Kl,Kl]
  exact Mat.not_less.1 h3
 obtain⟨F,hF⟩:∃F,flatK Cell.enc 2 d'=F:=⟨_,rfl⟩
 have hFl:F.toList=(d'.toList.map Cell.enc).flatten:=by
  have:=Pp d'.toList
  rw[of,hF]at this
  exact this
 have hFs:F.size=l.length*2:=by rw[<-hF,size_flatK,hds]
 have hFll:F.toList.length=l.length*2:=by rw[<-hFs];exact AR
 have hus:(Sort.putCells id 0 F us).toList=(d'.toList.map Cell.enc).flatten++us.toList.drop (l.length*2):=by
  rw[<-hFl]
  apply Cu
  intro k
  unfold Sort.putCells
  rw[BE,Qo]
  by_cases hk:k<l.length*2
  . have hk2:k<us.size:=by omega
    rw[AY q_o,AZ hk2,BE,AZ (by omega:k<F.size),CA,if_pos ⟨Aq _,by omega⟩,Lp,getElem!_pos _ k q_o]
    rfl
  . have e:l.length*2+(k - F.toList.length)=k:=by omega
    rw[BN q_o,Eu,e,BE]
    cases us[k]? with
    | none=>rfl
    | some u=>rw[CA,if_neg q_o]
 have hrep:RepL (OwnS (.box g 52 (Ej l++zs)::st)) w (Sort.putCells id 0 F us).toList (Ej (d'.toList.map Cell.m)++zs):=by
  rw[hus]
  refine RepL.append (Sc _) ?_
  have:=hr.drop (l.length*2)
  rwa[JV,AB (l:=Ej l) (by rw[Iq];omega),AO,show l.length*2 - (Ej l).length=0 by rw[Iq];omega,Ca]at this
 have hlt:=(AD.1 hb).1
 have hs:=Sz (w':=Sort.putRow id (Sort.ahead w n) g 0 F) hh hb (by simp[Sort.putCells]) (Fh _ _) rfl rfl rfl (by simp[Sort.putRow,Sort.mapBlock,Sort.ahead]) (by
  simp only[Sort.putRow,Sort.mapBlock,Sort.ahead]
  rw[Dg]
  simp[hb,Sort.onCells]) (λk hk=>by
  simp only[Sort.putRow,Sort.mapBlock,Sort.ahead]
  rw[Dg,if_neg (Ln hk)]) hrep (λd hd=>by
   rw[Bh]at hd
   exact hd.elim (YE _ d) λh=>hlc d (Bc _ h))
 have hw:sortWorldK Cell.enc 2 w g 0 n d' os=grow (Sort.putRow id (Sort.ahead w n) g 0 F) os:=by rw[<-hF];rfl
 rw[hw]
 have hg:=Pe hs.1 os
 exact⟨_,rfl,.tup [],_,.tup [] [] rfl (λi h=>absurd h (BI _)),hg,hs.2.trans (Pf _ _ os),d'.toList.map Cell.m,hperm,hsort,rfl,rfl⟩
theorem UB(st:St):TrF prog 57 [.sl .tight [],.fn (.func 71) [] []] st λd st'=>d=.tup []/\st'=st:=by
 intro vs w hv hh
 obtain⟨lv⟩:=vs
 obtain⟨v0,t0,e0,h1,hv⟩:=hv.inv_cons
 obtain⟨v1,t1,e1,h2,hv⟩:=hv.inv_cons
 have e2:=hv.inv_nil
 dsimp only at e0
 subst e2 e1 e0
 obtain⟨a,cap,us,sz,rfl, -⟩:=Ep h1
 have hc:Calls prog 57 #[.slice a 0 cap,v1] w λe w'=>e=.returned (.tuple #[])/\w'=w:=AnyF.slices_SortFunc_none Tryz.sortMatch a cap v1 w
 refine hc.mono ?_
 rintro e w' ⟨rfl,rfl⟩
 exact⟨_,rfl,.tup [],st,.tup [] [] rfl (λi h=>absurd h (BI _)),hh,Ext.refl _ _,rfl,rfl⟩
end
end
section
open Classical in
noncomputable def tkB (S:NC)(b:Nat):List Int×List V:=if h:∃w∈S.H,w.b=b then tkR S (Classical.choose h)else([],[])
theorem VA{S:NC}(hS:Nt.Str S []){w:Tok}(hw:w∈S.H):tkB S w.b=tkR S w:=by
 have h:∃v∈S.H,v.b=w.b:=⟨w,hw,rfl⟩
 unfold tkB
 rw[dif_pos h]
 have h1:=Qn h
 rw[hS.same h1.1 hw h1.2]
def KG (S:NC):List Nat:=match S.ns[S.ns.length - 1]? with
|some x=>x.ts
|none=>[]
theorem Nn{S:NC}{x:Nd}(h:S.ns[S.ns.length - 1]?=some x):KG S=x.ts:=by unfold KG;rw[h]
theorem Xg{S:NC}{ps:List Pt}{F:List Fc}(h:ChainOk S ps F)(hid:∀f∈F,f.id≠0)(hnd:(F.map Fc.id).Nodup){k:Nat}{x:Nd}(hk:k<=ps.length)(hx:S.ns[k]?=some x):(x.ts.map (tkB S)).Perm (Mat.from_ F (ps.take k) [] Mat.empty):=by
 refine((im h.str hx).map _).trans (List.Perm.trans ?_ (UN h hid hnd k hk))
 rw[Ec]
 exact Ij (List.map_congr_left λu hu=>VA h.str (FM.1 hu).1)
theorem Rq{S:NC}{ps:List Pt}{F:List Fc}(h:ChainOk S ps F)(hid:∀f∈F,f.id≠0)(hnd:(F.map Fc.id).Nodup):((KG S).map (tkB S)).Perm (Mat.from_ F ps [] Mat.empty):=by
 obtain⟨x,hx, -⟩:=h.last
 have e:KG S=x.ts:=Nn (by rw[h.nl];exact hx)
 rw[e]
 have:=Xg h hid hnd (Ap _) hx
 rwa[Db]at this
abbrev En:=Mt×Nat×List V
noncomputable def NN (S:NC)(i:Int):List En:=(KG S).map λb=>(⟨i,(tkB S b).1⟩,b,(tkB S b).2)
noncomputable def DX:List NC->Int->List En
|[],_=>[]
|S::l,i=>NN S i++DX l (i+1)
theorem WD{cs:List NC}{i:Nat}{S:NC}(h:cs[i]?=some S):DX (cs.drop i) i=NN S i++DX (cs.drop (i+1)) (i+1:Nat):=by
 rw[V.drop_cons h,DX];rfl
theorem RH:∀(cs:List NC) (R:List Rl) (F:List Fc) (i:Int),(∀f∈F,f.id≠0)->(F.map Fc.id).Nodup->cs.length=R.length->(∀(j:Nat) (x:Rl) (S:NC),R[j]?=some x->cs[j]?=some S->ChainOk S x.pats F)->((DX cs i).map Prod.fst).Perm (Mat.flatR (λx=>(Mat.mats x F).map Prod.fst) R i)
|[],[],_,_,_,_,_,_=>.refl _
|[],_::_,_,_,_,_,h,_=>by cases h
|_::_,[],_,_,_,_,h,_=>by cases h
|S::cs,x::R,F,i,hid,hnd,hl,h=>by
  unfold DX Mat.flatR
  rw[Bo]
  refine List.Perm.append ?_ (RH cs R F (i+1) hid hnd (by simpa using hl) λj y T h1 h2=>h (j+1) y T h1 h2)
  have h1:=Rq (h 0 x S rfl rfl) hid hnd
  have h2:=(h1.map Prod.fst).map (Mt.mk i)
  refine List.Perm.trans (Ij ?_) h2
  unfold NN
  rw[Ec,Ec,Ec]
  rfl
theorem Pw:∀(cs:List NC) (i:Int) (y:En),y∈DX cs i->∃(k:Nat) (S:NC),cs[k]?=some S/\y.1.rule=i+k/\y.2.1∈KG S/\tkB S y.2.1=(y.1.ids,y.2.2)
|[],_,_,h=>by cases h
|S::cs,i,y,h=>by
  unfold DX at h
  rcases Bh.1 h with h|h
  . obtain⟨b,hb,rfl⟩:=Ax.1 h
    exact⟨0,S,rfl,by show i=i+((0:Nat):Int);omega,hb,rfl⟩
  . obtain⟨k,T,h1,h2,h3,h4⟩:=Pw cs (i+1) y h
    exact⟨k+1,T,h1,by rw[h2];omega,h3,h4⟩
theorem NT.Ok.end_{N:NT}{R:List Rl}(h:N.Ok R){y:En}(hy:y∈DX N.cs 0):∃(k:Nat) (x:Rl),R[k]?=some x/\y.1.rule=k/\(y.1.ids,y.2.2)∈Mat.mats x N.fs:=by
 obtain⟨k,S,h1,h2,h3,h4⟩:=Pw N.cs 0 y hy
 have hk:k<R.length:=by rw[<-h.cl];exact(Af.1 h1).1
 refine⟨k,R[k],Aj hk,by rw[h2];omega,?_⟩
 have hC:=h.ch k R[k] S (Aj hk) h1
 have:=(Rq hC h.f0 h.nodup).mem_iff.1 (BH h3)
 rw[h4]at this
 exact this
theorem NT.Ok.ends{N:NT}{R:List Rl}(h:N.Ok R):((DX N.cs 0).map Prod.fst).Perm (Mat.raws R N.fs):=RH N.cs R N.fs 0 h.f0 h.nodup h.cl h.ch
theorem flatR_perm{f g:Rl->List (List Int)}(h:∀x,(f x).Perm (g x)):∀(l:List Rl) (i:Int),(Mat.flatR f l i).Perm (Mat.flatR g l i)
|[],_=>.refl _
|x::l,i=>by
  unfold Mat.flatR
  exact((h x).map _).append (flatR_perm h l (i+1))
theorem QT{F G:List Fc}(h:F.Perm G)(R:List Rl):(Mat.raws R F).Perm (Mat.raws R G):=flatR_perm (λx=>(from_perm h x.pats [] Mat.empty).map _) R 0
theorem sortM_perm{l m:List Mt}(h:l.Perm m):Mat.sortM l=Mat.sortM m:=Mat.sortM_eq ((Mat.sortM_srt l).2.trans h) (Mat.sortM_srt l).1
end
section
attribute [local push_cast] Bs Bn BV V.cells_mk V.cells_len Nat.mul_one Int.sub_zero List.map_nil beq_self_eq_true bne_self_eq_false List.head?_cons Bool.not_true Bool.not_false Nat.zero_add
attribute [-instance] Ch Cr BL Dl
theorem RoundC.inhab{P:Program}{l:Nat}{args:List D}{st:St}{R:D->St->Prop}{w:World}(h:RoundC P l args st R){us:List Value}(hr:RepL (OwnS st) w us args)(hh:Holds st w):∃d st',R d st':=by
 obtain⟨fn,t,a,b, -, -,h2⟩:=h us.toArray w (by simpa using hr) hh
 obtain⟨e,w',⟨v, -,d,s, -, -, -,k⟩, -⟩:=h2 (Frame.round l fn t a b .normal) [] (by first|trivial|simp[FR,Fence.room])
 exact⟨d,s,k⟩
theorem TrF.inhabV{P:Program}{f:FuncId}{ds:List D}{st:St}{w:World}{R:D->St->Prop}(h:TrF P f ds st R){us:List Value}(hr:RepL (OwnS st) w us ds)(hh:Holds st w):∃w' v d st',Rep (OwnS st') w' v d/\Holds st' w'/\R d st':=by
 obtain⟨e,w',fr,⟨v, -,d,st',h1,h2, -,h4⟩, -⟩:=h us.toArray w (by simpa using hr) hh []
 exact⟨w',v,d,st',h1,h2,h4⟩
section
variable {P:Program} {r:Option Nat} {A:AA} {m:Option Ro} {k:D->St->Prop} {dst:Option Tmp} {ty:TypeId} {pos:String} {aft:Array Edge} {gd:Option (Nat×Bool)}
theorem aE{l:Nat}{X:Type}{args:X->List D}{L:List X}{J Jx:Nat->St->Prop}{f:St->St}{K C:St}{i:Nat}{x:X}{g:Operand}{oas:Array Operand}{tys:Array TypeId}{ds:List D}
 (hY:IV P l args L J Jx)(hJ:J i C)(hx:L[i]?=some x)(hin:∃C',J (i+1) C'\/Jx (i+1) C')(hg:ev A.e g=some (.fn (.yield l) [] []))(ha:evL A.e oas.toList=some ds)(hle:LEL ds (args x))(hf:∀C,f C=K++C)
 (hk1:∀C',J (i+1) C'->CR m (f C')/\k (.s (.bool true)) (f C'))(hk0:∀C',Jx (i+1) C'->CR m (f C')/\k (.s (.bool false)) (f C')):S P r m ⟨dst,.call ⟨.value g,oas,tys⟩,ty,pos,aft,gd⟩ A (f C) k:=by
 refine El (R:=λd st'=>∃C',st'=f C'/\((d=.s (.bool true)/\J (i+1) C')\/(d=.s (.bool false)/\Jx (i+1) C'))) rfl (Nl rfl rfl hg ha ?_) ?_ ?_
 . refine(RoundC.perm (by rw[hf];exact Bk) (hY i x C K hx hJ) ?_).le hle
   rintro d s ⟨C',rfl,hc⟩
   exact⟨f C',by rw[hf];exact Bk,C',rfl,hc⟩
 . rcases hin with⟨C',h|h⟩
   . exact⟨_,_,C',rfl,.inl ⟨rfl,h⟩⟩
   . exact⟨_,_,C',rfl,.inr ⟨rfl,h⟩⟩
 . rintro d st' ⟨C',rfl,⟨rfl,h⟩|⟨rfl,h⟩⟩
   . exact hk1 C' h
   . exact hk0 C' h
end
theorem bF(S:NC)(k:Nat)(x:Nd)(hx:S.ns[k]?=some x)(hS:Nt.Str S [])(st:St):TrF prog 104 [.ptr S.g (k*9+6)] (S.st++st) λd st'=>d=.fn (.func 141) [] [.ip [.sl .shared (Ge x.ts)]]/\st'=S.st++st:=by
 have h6:=(NC.at_T hx).append_right st
 simp only[AJ,Ai]at h6
 have h8:=NZ S.g 115 (JM S.ns k x) (GF S.ns k S.zs) x.tm x.ts (hS.okx x (Ah hx)).2 (Nt.ts_len hS hx) (x.fm.resF x.fs++(S.off k++st))
 rw[Kx hx]at h8
 exact TrF.permPost h6 (h8.mono λd st' ⟨e1,e2⟩=>⟨_,⟨e1,rfl⟩,by rw[e2];exact h6.symm⟩)
theorem UH(n:D)(hn:n=.s (.pointer none)\/∃b,n=.ptr b 0)(st:St):TrF prog 70 [n] st λd st'=>d=.fn (.func 106) [] [.ip [n]]/\st'=st:=by
 rcases hn with rfl|⟨b,rfl⟩
 . refine Qin [2] func70 results70 ntmps70 ?_
   exact WR
 . refine Qin [2] func70 results70 ntmps70 ?_
   exact WR
def HasN (N:NT)(C:St):Prop:=∃C',C.Perm (N.st++C')
theorem HasN.app{N:NT}(C B:St)(h:HasN N C):HasN N (C++B):=by
 obtain⟨C',h⟩:=h
 exact⟨C'++B,by rw[<-Ai];exact h.append_right B⟩
def fv (y:En):List D:=[.agg y.1.cells,.ptr y.2.1 0]
theorem Vf(N:NT)(R:List Rl)(hN:N.Ok R)(hR:R.length<=1000):cY prog 106 [.ip [.ptr N.b 0]] fv (DX N.cs 0) [] (λR=>R=[]) (λ_ R=>R=[]) (HasN N):=by
 intro l C J Jx hY hPr hJ
 obtain⟨J',hJ'⟩:∃J':Nat->St->Prop,J'=λi C0=>∃C',J i C'/\C0.Perm C':=⟨_,rfl⟩
 have HY:Hid (IV prog l fv (DX N.cs 0) J' Jx):=by
  subst hJ'
  rintro i x C0 K hx ⟨C',h1,h2⟩
  refine RoundC.perm (h2.append_right K) (hY i x C' K hx h1) ?_
  rintro d s ⟨C1,rfl,⟨e,h⟩|⟨e,h⟩⟩
  . exact⟨_,.refl _,C1,rfl,.inl ⟨e,C1,h,.refl _⟩⟩
  . exact⟨_,.refl _,C1,rfl,.inr ⟨e,h⟩⟩
 have HP:Hid (∀i C0,J' i C0->∃C',C0.Perm (N.st++C')/\J' i (N.st++C')):=by
  subst hJ'
  rintro i C0 ⟨C1,h1,h2⟩
  obtain⟨C',h3⟩:=hPr i C1 h1
  exact⟨C',h2.trans h3,C1,h1,h3.symm⟩
 have HE:Hid (∀C0,J' (DX N.cs 0).length C0->∃C1,J (DX N.cs 0).length C1/\C0.Perm C1):=by
  subst hJ'
  rintro C0 ⟨C1,h1,h2⟩
  exact⟨C1,h1,h2⟩
 have H0:Hid (J' 0 C):=by
  subst hJ'
  exact⟨C,hJ,.refl _⟩
 obtain⟨E,hE⟩:∃E,E=DX N.cs 0:=⟨_,rfl⟩
 rw[<-hE]at HY HE
 have E0:Hid (E.drop 0=DX (N.cs.drop 0) ((0:Nat):Int)):=by rw[Ca,Ca];exact hE
 have HN:=Aa hN
 have hcl:N.cs.length<=1000:=by have:=hN.cl;omega
 rw[<-hE]
 clear hY hJ hPr hJ' hN hR hE
 refine Qin [] func106 results106 ntmps106 ?_
 obtain⟨C',hC',H1⟩:=HP.out 0 C H0.out
 obtain⟨W,hW⟩:∃W,W=N.fm.resF N.fs++N.cs.flatMap NC.st++C':=⟨_,rfl⟩
 have hNs:∀C',N.st++C'=.box N.b 105 N.cells::(N.fm.resF N.fs++N.cs.flatMap NC.st++C'):=λC'=>rfl
 refine Bq (st':=.box N.b 105 N.cells::W) (by rw[hW,<-hNs];exact hC') ?_
 rw[hNs,<-hW]at H1
 clear H0 hC' hW
 have hrl:N.row.length=N.cs.length:=by unfold NT.row;rw[Ab]
 obtain⟨m0,m1,m2,hm⟩:=N.fm.cells3 N.fs.length
 have hcells:N.cells=[.sl .shared N.row,m0,m1,m2]:=by unfold NT.cells;rw[hm]
 rw[hcells]at hNs H1 |-
 have hrow:Hid (∀(i:Nat) (S:NC),N.cs[i]?=some S->N.row[i]?=some [.ptr S.c 0]):=λi S h=>by unfold NT.row;rw[Ar,h];rfl
 obtain⟨ROW,hROW⟩:∃ROW,ROW=N.row:=⟨_,rfl⟩
 rw[<-hROW]at hNs hrl hrow H1 |-
 replace hROW:=Aa hROW
 obtain⟨n,hn⟩:∃n,n=N.cs.length:=⟨_,rfl⟩
 rw[<-hn]at hcl hrl
 obtain⟨nb,hnb⟩:∃nb,nb=N.b:=⟨_,rfl⟩
 rw[<-hnb]
 replace hn:=Aa hn
 replace hnb:=Aa hnb
 replace hNs:=Aa hNs
 replace H1:=Aa H1
 clear hcells hm
 repeat' (first|refine QV ?_|((with_reducible apply Jj);(focus kernel_rfl);(focus exact q_v))|refine QY ?_|refine QB ?_;intro b|with_reducible refine QZ ?_<;>(try constructor)<;>intro hb<;>try intro hb1|fail)
 refine Bw (ι:=Nat) (λi A st'=>∃(C':St) (off:Nat) (rs:List Nat),i<=n/\Hid (J' off C')/\Hid (E.drop off=DX (N.cs.drop i) i)/\off<=E.length/\A.df=rs.map Fr/\A.e 2=.ip [.fn (.yield l) [] []]/\A.e 11=.sl .shared ROW/\A.e 12=.i n/\A.e 13=.i i/\st'=rs.map BJ++C') (λi=>n - i) 0 ⟨_,0,[],Aq _,H1,E0,Aq _,Qf,Qf,Qf,Qf,Qf,by rw[hnb.out];rfl⟩ ?_
 clear H1 E0
 rintro i A st' ⟨C1,off,rs,hi,HJ,HO,hol,hdf,e2,e11,e12,e13,rfl⟩
 by_cases hlt:i<n
 . obtain⟨S,hS⟩:∃S,N.cs[i]?=some S:=⟨_,Aj (by rw[<-hn.out];exact hlt)⟩
   obtain⟨x,hx⟩:∃x,R[i]?=some x:=⟨_,Aj (by rw[<-HN.out.cl,<-hn.out];exact hlt)⟩
   have hC:=HN.out.ch i x S hx hS
   have hrc:=hrow.out i S hS
   obtain⟨y,hy, -⟩:=hC.last
   have hlast:KG S=y.ts:=Nn (by rw[hC.nl];exact hy)
   have hOd:=HO.out
   rw[WD hS]at hOd
   have hEc:∀(j b:Nat),y.ts[j]?=some b->E[off+j]?=some (⟨i,(tkB S b).1⟩,b,(tkB S b).2):=λj b hb=>by
    have h1:(E.drop off)[j]?=(NN S i)[j]?:=by
     rw[hOd,AY]
     unfold NN
     rw[hlast,Ab]
     exact(Af.1 hb).1
    rw[Eu]at h1
    rw[h1]
    unfold NN
    rw[hlast,Ar,hb]
    rfl
   have hcel:(NN S i).length=y.ts.length:=by unfold NN;rw[Ab,hlast]
   have hO2:Hid (E.drop (off+y.ts.length)=DX (N.cs.drop (i+1)) (i+1:Nat)):=by
    rw[<-CJ,hOd,<-hcel,CH]
    exact Aa rfl
   have hol2:Hid (off+y.ts.length<=E.length):=by
    have h1:=congrArg List.length hOd
    rw[AP,Ae,hcel]at h1
    show _<=_
    omega
   have hw:Hid (∀(j b:Nat),y.ts[j]?=some b->∃w∈S.H,w.b=b/\(tkB S b).1=IR S w):=λj b hb=>by
    obtain⟨w,w1,w2, -⟩:=(hC.str.tm _ y hy b).1 (Ah hb)
    refine⟨w,w1,w2,?_⟩
    rw[<-w2,VA hC.str w1]
    rfl
   have htl:=Nt.ts_len hC.str hy
   obtain⟨C2,hC2,hJ2⟩:=HP.out off C1 HJ.out
   obtain⟨RR,hRR⟩:∃RR,RR=Res.box N.b 105 (.sl .shared N.row::N.fm.cells N.fs.length)::(N.fm.resF N.fs++(((N.cs.take i).flatMap NC.st++(N.cs.drop (i+1)).flatMap NC.st)++C2)):=⟨_,rfl⟩
   have hat:Hid (∀s,∃RR,(N.st++s).Perm (S.st++RR)):=λs=>⟨_,Jo (N:=N) (M:=N.fm) (F:=N.fs) hS s⟩
   obtain⟨RR,hRR⟩:=hat.out C2
   obtain⟨X,hX⟩:∃X,X=Res.box S.g 115 (Cz S.ns++S.zs)::((S.ns.flatMap Nd.res++S.H.flatMap Tok.res)++(RR++rs.map BJ)):=⟨_,rfl⟩
   have hSX:S.st++(RR++rs.map BJ)=.box S.c 109 [.ar S.g 0 S.ns.length S.cap]::X:=by rw[hX];rfl
   have hp1:(rs.map BJ++C1).Perm (.box S.c 109 [.ar S.g 0 S.ns.length S.cap]::X):=by
    rw[<-hSX,<-Ai]
    exact(Bk (l₁:=rs.map BJ)).trans ((hC2.trans hRR).append_right _)
   have hall:Hid (∀B:Res,TrF prog 104 [.ptr S.g (x.pats.length*9+6)] (B::.box S.c 109 [.ar S.g 0 S.ns.length S.cap]::X) λd st'=>d=.fn (.func 141) [] [.ip [.sl .shared (Ge y.ts)]]/\st'=B::.box S.c 109 [.ar S.g 0 S.ns.length S.cap]::X):=λB=>by
    rw[<-hSX]
    exact TrF.permPost AG.symm ((bF S _ y hy hC.str (B::(RR++rs.map BJ))).mono λd st' ⟨e1,e2⟩=>⟨_,⟨e1,rfl⟩,by rw[e2];exact AG⟩)
   have hids:Hid (∀(j b:Nat),y.ts[j]?=some b->∀(B:Res) (M:St) (s:St),TrF prog 107 [.ptr b 0] (B::(M++(N.st++s))) λd st'=>d=.sl .shared ((tkB S b).1.map Bn)/\st'=B::(M++(N.st++s))):=λj b hb B M s=>by
    obtain⟨w,w1,w2,w3⟩:=hw.out j b hb
    obtain⟨R2,hR2⟩:=hat.out s
    have hp:(B::(M++(N.st++s))).Perm (S.st++(R2++(B::M))):=by
     show List.Perm ((B::M)++(N.st++s)) _
     rw[<-Ai S.st]
     exact Bk.trans (hR2.append_right _)
    rw[w3,<-w2]
    exact TrF.permPost hp ((mK S w hC.str w1 _).mono λd st' ⟨e1,e2⟩=>⟨_,⟨e1,rfl⟩,by rw[e2];exact hp.symm⟩)
   have hpj:Hid (∀j,j<=0->J' (off+j) C1):=λj hj=>by
    have:off+j=off:=by omega
    rw[this];exact HJ.out
   have hnl:=hC.nl
   have hp4:x.pats.length<=4:=by have:=hC.str.nl;omega
   have hcap:S.ns.length<=S.cap:=by
    have:=hC.str.row
    rw[Ae,DK]at this
    omega
   rw[hnl]at hp1 hall hcap
   replace hEc:=Aa hEc
   have hIt:=Aa (NY y.ts htl)
   refine Bq hp1 ?_
   have hp1s:Hid ((Res.box S.c 109 [.ar S.g 0 (x.pats.length+1) S.cap]::X).Perm (rs.map BJ++C1)):=hp1.symm
   clear hp1 hSX hX hRR hC2 hJ2 hat hw htl hcel hOd hlast hy hC hx hS hnl hrow
   generalize Ge y.ts=LP at *
   generalize x.pats.length=pl at *
   generalize S.c=sc at *
   generalize S.g=sg at *
   generalize S.cap=scap at *
   have hpl1:(pl:Int)+1 - 1=pl:=by omega
   repeat' (first|refine QV ?_|((with_reducible apply(DN (id:=5) [(sc,[.ar sg 0 (pl+1) scap])]));(iterate 3 (focus kernel_rfl));(focus exact q_k);intro hne;(try simp only[nes,ne1,and_assoc]at hne);repeat(have hq:=hne.1;replace hne:=hne.2))|((with_reducible refine And.intro ?_ ?_);(focus exact q_k))|((with_reducible apply(EB call104));(focus exact Ao _);(focus exact hall.out _);(focus exact LEL.refl _);(focus exact⟨_,_,rfl,rfl⟩);(rintro d2 st2 ⟨rfl,rfl⟩;refine⟨by((repeat(first|exact BP|refine Cp q_m ?_));done),?_⟩))|(with_reducible refine DM ?_)|refine QY ?_|refine QB ?_;intro b|with_reducible refine QZ ?_<;>(try constructor)<;>intro hb<;>try intro hb1|fail)
   obtain⟨ib,rfl⟩:∃q,q=b:=⟨_,rfl⟩
   refine Bq (st':=[]++(.box ib 3 [.i i]::(rs.map BJ++C1))) (hp1s.out.cons _) ?_
   refine Ia hIt.out call141 q_v (λ_=>rfl) rfl (λj Cc=>∃C3,Cc=.box ib 3 [.i i]::(rs.map BJ++C3)/\J' (off+j) C3) (λc j Cc=>c=Code.ret/\∃C3 i',Cc=.box ib 3 [.i i]::(rs.map BJ++C3)/\Jx i' C3) ⟨C1,rfl,HJ.out⟩ ?_ ?_ ?_
   . rintro l2 j tb Cc K hb ⟨C3,rfl,hJ3⟩
     have hx:=hEc.out j tb hb
     have hid:=hids.out j tb hb
     obtain⟨C4,hp4,hJ4⟩:=HP.out _ _ hJ3
     clear hEc hids hall hIt HP HE hO2 hol2 HO hpj hb
     generalize (tkB S tb).2=tenv at *
     generalize (tkB S tb).1=tids at *
     refine(?_:Tr _ _ _ _ (AA.put ⟨_,[]⟩ (some 31) (.ptr tb 0)) (.box ib 3 [.i i]::((rs.map BJ++C3)++K)) _)
     repeat' (first|refine QX ?_|refine QB ?_;intro b|with_reducible refine QZ ?_<;>(try constructor)<;>intro hb<;>try intro hb1|fail)
     refine⟨.box ib 3 [.i i]::(rs.map BJ++C3),Al _,λK'=>?_⟩
     clear K
     obtain⟨YC,hYC⟩:∃YC,YC=N.st++C4:=⟨_,rfl⟩
     obtain⟨M,hM⟩:∃M,M=rs.map BJ++K':=⟨_,rfl⟩
     have hid2:=Aa (hid (.box ib 3 [.i i]) M C4)
     rw[<-hYC]at hid2 hJ4 hp4
     have hpm:((.box ib 3 [.i i]::(rs.map BJ++C3))++K').Perm (.box ib 3 [.i i]::(M++YC)):=by
      rw[hM,AJ,Ai,Ai]
      exact((Bk.trans (hp4.append_left K')).append_left _).cons _
     have hback:Hid (∀C5,(Res.box ib 3 [.i i]::(M++C5)).Perm ((.box ib 3 [.i i]::(rs.map BJ++C5))++K')):=λC5=>by
      rw[hM,AJ,Ai,Ai]
      exact(Bk.append_left _).cons _
     have hinh:Hid ((∃w,Holds (.box ib 3 [.i i]::(M++YC)) w)->∃C',J' (off+j+1) C'\/Jx (off+j+1) C'):=λ⟨w,hw⟩=>by
      obtain⟨w',v,d,st2,k1,k2,rfl,rfl⟩:=hid2.out.inhabV (us:=[.pointer (some ⟨tb,0,none⟩)]) (RepL.cons (.ptr _ _) .nil) hw
      have hpp:(Res.box ib 3 [.i i]::(M++YC)).Perm (YC++(.box ib 3 [.i i]::M)):=(Bk (l₁:=Res.box ib 3 [.i i]::M) (l₂:=YC))
      rw[OwnS.perm hpp]at k1
      have hagg:Rep (OwnS (YC++(.box ib 3 [.i i]::M))) w' (.agg #[.int .i64 i,v]) (.agg [.i i,.sl .shared (tids.map Bn)]):=by
       have h3:RepL (OwnS (YC++(.box ib 3 [.i i]::M))) w' [.int .i64 i,v] [.i i,.sl .shared (tids.map Bn)]:=RepL.cons (.s _ rfl) (RepL.cons k1 .nil)
       exact .agg [_,_] _ h3.1 h3.2
      obtain⟨d2,st3,C', -,h5⟩:=(HY.out _ _ YC (.box ib 3 [.i i]::M) hx hJ4).inhab (us:=[.agg #[.int .i64 i,v],.pointer (some ⟨tb,0,none⟩)]) (RepL.cons hagg (RepL.cons (.ptr _ _) .nil)) (k2.perm hpp)
      rcases h5 with⟨-,h⟩|⟨-,h⟩
      . exact⟨C',.inl h⟩
      . exact⟨C',.inr h⟩
     refine Ha ?_
     refine Bq hpm ?_
     have hye:fv (⟨(i:Int),tids⟩,tb,tenv)=[.agg [.i i,.sl .shared (tids.map Bn)],.ptr tb 0]:=rfl
     generalize tids.map Bn=IC at *
     replace hJ4:=Aa hJ4
     clear hpm hM hp4 hJ3 hid hYC
     repeat' (first|refine QV ?_|((with_reducible apply(KT (id:=7) [(ib,[.i i])]));(iterate 3 (focus kernel_rfl));(focus exact q_k);intro hne;(try simp only[nes,ne1,and_assoc]at hne);(repeat(have hq:=hne.1;replace hne:=hne.2));intro hw)|((with_reducible refine And.intro ?_ ?_);(focus exact q_k))|((with_reducible apply(aE (f:=λx=>.box ib 3 [.i i]::(M++x)) (K:=.box ib 3 [.i i]::M) HY.out hJ4.out hx (hinh.out hw)));(focus exact q_v);(focus exact q_v);(focus(rw[hye];exact LEL.refl _));(focus exactλ_=>rfl);all_goals(intro C' hC';refine⟨by((repeat(first|exact BP|refine Cp q_m ?_));done),?_⟩))|((with_reducible apply(EB call107));(focus exact Ao _);(focus exact hid2.out);(focus exact LEL.refl _);(focus exact⟨_,_,rfl,rfl⟩);(rintro d2 st2 ⟨rfl,rfl⟩;refine⟨by((repeat(first|exact BP|refine Cp q_m ?_));done),?_⟩))|(with_reducible refine DM ?_)|refine QY ?_|refine QB ?_;intro b|with_reducible refine QZ ?_<;>(try constructor)<;>intro hb<;>try intro hb1|fail)
     . exact⟨(.box ib 3 [.i i]::(rs.map BJ++C'))++K',hback.out C',_,Al _,C',rfl,hC'⟩
     . exact⟨(.box ib 3 [.i i]::(rs.map BJ++C'))++K',hback.out C',_,Al _,rfl,C',_,rfl,hC'⟩
   . rintro d K1 C' rfl ⟨C3,rfl,hJ3⟩
     clear hEc hids hall hIt HP HE hpj HO hol
     change Tr _ _ _ _ _ _ _
     refine Bq (st':=.box ib 3 [.i i]::(BJ d::(rs.map BJ++C3))) (List.Perm.swap _ _ _) ?_
     repeat' (first|refine QX ?_|refine QB ?_;intro b|with_reducible refine QZ ?_<;>(try constructor)<;>intro hb<;>try intro hb1|fail)
     refine⟨i+1,BJ d::(rs.map BJ++C3),(Al _).cons _,⟨C3,off+y.ts.length,d::rs,hlt,Aa hJ3,hO2,hol2.out,?_,?_,?_,?_,?_,rfl⟩,by omega⟩
     all_goals first|exact congrArg (List.cons (Fr d)) hdf|exact Qf
   . rintro c d j K1 C' rfl ⟨rfl,C3,i',rfl,hJ3⟩
     clear hEc hids hall hIt HP HE hpj HO hol hO2 hol2
     change Tr _ _ _ _ _ _ _
     refine Bq (st':=.box ib 3 [.i i]::(BJ d::(rs.map BJ++C3))) (List.Perm.swap _ _ _) ?_
     repeat' (first|refine QX ?_|refine QB ?_;intro b|with_reducible refine QZ ?_<;>(try constructor)<;>intro hb<;>try intro hb1|fail)
     exact Ir (rs:=d::rs) q_x (congrArg (List.cons (Fr d)) hdf) (s2:=.box ib 3 [.i i]::C3) ((AG (l₁:=BJ d::rs.map BJ)).symm) (AL ..) (LE.refl _) ⟨[],C3,rfl,.inr ⟨_,rfl,hJ3⟩⟩
 . have hil:i=n:=by omega
   subst hil
   have hO3:E.drop off=[]:=by
    rw[HO.out,AB (l:=N.cs) (by rw[<-hn.out];exact Ap _)]
    rfl
   have hoff:off=E.length:=by
    have:=List.drop_eq_nil_iff.1 hO3
    omega
   subst hoff
   obtain⟨C2,h1,h2⟩:=HE.out _ HJ.out
   clear HO hO3 HE HP HY HJ
   repeat' (first|refine QX ?_|refine QB ?_;intro b|with_reducible refine QZ ?_<;>(try constructor)<;>intro hb<;>try intro hb1|fail)
   exact Ir q_x hdf (h2.append_left _) (Al _) (LE.refl _) ⟨[],C2,rfl,.inl ⟨rfl,h1⟩⟩
end
section
attribute [local push_cast] Bs Bn BV V.cells_mk V.cells_len Nat.mul_one Int.sub_zero List.map_nil beq_self_eq_true bne_self_eq_false List.head?_cons Bool.not_true Bool.not_false Nat.zero_add
theorem OutS.hasN{N:NT}{b:Nat}{acc:List Mt}{st C core:St}(hp:C.Perm core)(h:OutS b acc (N.st++st) core):HasN N C:=by
 rcases h with⟨-,rfl⟩|⟨-,g,cap,zs, -,rfl⟩
 . exact⟨_,hp.trans AG.symm⟩
 . exact⟨_,hp.trans ((AG.symm.cons _).trans AG.symm)⟩
theorem KA(N:NT)(R:List Rl)(hN:N.Ok R)(hR:R.length<=1000)(hl:(DX N.cs 0).length<=1000000)(hid:∀y∈DX N.cs 0,y.1.ids.length<=1000000)(st:St):TrF prog 37 [.ptr N.b 0] (N.st++st) (AllRaw ((DX N.cs 0).map Prod.fst) (N.st++st)):=by
 have hIt:=Aa (Vf N R hN hR)
 have hEn:=Aa λ(st:St)=>UH (.ptr N.b 0) (.inr ⟨_,rfl⟩) st
 have HasO:=Aa λ(b:Nat) (acc:List Mt) (C core:St) (hp:C.Perm core) (h:OutS b acc (N.st++st) core)=>h.hasN hp
 have happ:=Aa λ(C B:St) (h:HasN N C)=>h.app C B
 generalize DX N.cs 0=E at *
 generalize N.st++st=RS at *
 generalize HasN N=PN at *
 generalize N.b=nb at *
 clear hN hR
 refine Qin [2] func37 results37 ntmps37 ?_
 repeat' (first|refine QX ?_|refine QB ?_;intro b|with_reducible refine QZ ?_<;>(try constructor)<;>intro hb<;>try intro hb1|refine Qc call70 ((hEn.out _)) ?_|fail)
 revert b
 intro b3
 refine Bq (st':=[]++(.box b3 48 [.sl .tight []]::RS)) (.refl _) ?_
 refine KU hIt.out call106 q_v (λ_=>rfl) rfl (λj C=>∃core,C.Perm core/\OutS b3 ((E.take j).map Prod.fst) RS core) (λ_ _ _=>False) happ.out (λi C ⟨core,hp,h⟩=>HasO.out _ _ _ _ hp h) ⟨_,.refl _,.inl ⟨rfl,rfl⟩⟩ ?_ ?_ (λ_ _ _ _ _ _ h=>h.elim)
 . rintro l j y C K hy ⟨core,hp,hO⟩
   have hs:(E.take (j+1)).map Prod.fst=(E.take j).map Prod.fst++[y.1]:=by rw[Br,hy,BQ,Bo];rfl
   have hl1:((E.take j).map Prod.fst).length<=1000000:=by rw[Ab,Bb];omega
   have hyc:fv y=[.agg [.i y.1.rule,.sl .shared (y.1.ids.map Bn)],.ptr y.2.1 0]:=rfl
   have hmc:Mt.cells y.1=[.i y.1.rule,.sl .shared (y.1.ids.map Bn)]:=rfl
   clear hIt hEn hl hid HasO happ hy
   generalize (E.take j).map Prod.fst=acc at *
   obtain⟨me,yb,ye⟩:=y
   dsimp only at *
   generalize hY1:me.ids.map Bn=Y1 at *
   generalize hri:me.rule=ri at *
   refine Bq (hp.append_right K) ?_
   refine(?_:Tr _ _ _ _ (AA.put (AA.put ⟨_,[]⟩ (some 7) (.agg [.i me.rule,.sl .shared (me.ids.map Bn)])) (some 8) (.ptr yb 0)) (core++K) _)
   rw[hY1,hri]
   clear hp
   repeat' (first|refine QX ?_|refine QB ?_;intro b|with_reducible refine QZ ?_<;>(try constructor)<;>intro hb<;>try intro hb1|fail)
   revert b
   intro b4
   refine⟨.box b4 52 [.i ri,.sl .shared Y1]::core,Al _,λK'=>?_⟩
   clear K
   rcases hO with⟨hnil,rfl⟩|⟨hne,g,cap,zs,hz,rfl⟩
   . subst hnil
     have hrm:Ej [me]=[[D.i ri,D.sl .shared Y1]].flatten:=by
      unfold Ej
      rw[Aw,hmc];rfl
     refine(?_:Tr _ _ _ _ _ (.box b4 52 [.i ri,.sl .shared Y1]::.box b3 48 [.sl .tight []]::(RS++K')) _)
     repeat' (first|refine QV ?_|with_reducible refine IX ?_|with_reducible refine Lr ?_|((with_reducible apply IZ);(focus exact q_n);(focus exact CS rfl);(focus exact q_n);(focus exact q_n);intro g' cap' zs' hc hl')|refine QY ?_|refine QB ?_;intro b|with_reducible refine QZ ?_<;>(try constructor)<;>intro hb<;>try intro hb1|fail)
     refine⟨.box g' 52 (_++zs')::.box b3 48 [.ar g' 0 1 cap']::RS,((Al _).cons _).cons_cons _,.box b3 48 [.ar g' 0 1 cap']::.box g' 52 ([[D.i ri,D.sl .shared Y1]].flatten++zs')::RS,List.Perm.swap _ _ _,.inr ⟨?_,g',cap',zs',?_,?_⟩⟩
     . rw[hs];exact Gb _ _
     . rw[hs,AO,hrm];exact hl'
     . rw[hs,AO,hrm];rfl
   . have hrl:(Ej acc).length=acc.length*2:=Iq _
     refine(?_:Tr _ _ _ _ _ (.box b4 52 [.i ri,.sl .shared Y1]::.box b3 48 [.ar g 0 acc.length cap]::.box g 52 (Ej acc++zs)::(RS++K')) _)
     have hra:=aU acc me
     rw[hmc]at hra
     have hle:(acc++[me]).length=acc.length+1:=Ae
     generalize Ej acc=RW at *
     generalize acc.length=n at *
     repeat' (first|refine QV ?_|with_reducible refine Io ?_|with_reducible refine Kv ?_|((with_reducible apply(It hrl hz));(focus(intro g' cs';repeat(first|exact Hn|apply Hm)));(focus exact CS rfl);(iterate 2 (focus exact q_n));intro g' cap' zs' hc hl')|refine QY ?_|refine QB ?_;intro b|with_reducible refine QZ ?_<;>(try constructor)<;>intro hb<;>try intro hb1|fail)
     refine⟨.box b3 48 [.ar g' 0 (n+1) cap']::.box g' 52 (RW++[[D.i ri,D.sl .shared Y1]].flatten++zs')::RS,(Al _).cons _,_,.refl _,.inr ⟨?_,g',cap',zs',?_,?_⟩⟩
     . rw[hs];exact Xb _ (Gb _ _)
     . rw[hs,hra];exact hl'
     . rw[hs,hra,hle]
 . rintro d K1 C' rfl ⟨core,hp,hO⟩
   rw[Db]at hO
   have hAi:∀m∈E.map Prod.fst,m.ids.length<=1000000:=λm hm=>by
    obtain⟨y,hy,rfl⟩:=Ax.1 hm
    exact hid y hy
   have hM:(E.map Prod.fst).length<=1000000:=by rw[Ab];exact hl
   clear hIt hEn hl hid HasO happ
   generalize E.map Prod.fst=acc at *
   change Tr _ _ _ _ _ _ _
   rcases hO with⟨rfl,rfl⟩|⟨hne,g,cap,zs,hz,rfl⟩
   . have hSn:=Aa UB
     refine Bq (st':=.box b3 48 [.sl .tight []]::BJ d::RS) ((hp.cons _).trans (List.Perm.swap _ _ _)) ?_
     clear hp
     repeat' (first|refine QX ?_|refine QB ?_;intro b|with_reducible refine QZ ?_<;>(try constructor)<;>intro hb<;>try intro hb1|refine Qc call57 ((hSn.out _)) ?_|fail)
     exact Ir (rs:=[d]) q_x q_y (s2:=.box b3 48 [.sl .tight []]::RS) (List.Perm.swap _ _ _) (AL ..) (LE.of_eq q_v) (.inl ⟨rfl,rfl,rfl⟩)
   . have hS:=Aa (bI g cap acc zs hne hAi hM)
     have hEx:Hid (∀st:St,∃(d:D) (st':St) (l':List Mt),l'.Perm acc/\Mat.Srt l'/\d=.tup []/\st'=.box g 52 (Ej l'++zs)::st):=λst=>⟨_,_,Mat.sortM acc,(Mat.sortM_srt acc).2,(Mat.sortM_srt acc).1,rfl,rfl⟩
     refine Bq (st':=.box b3 48 [.ar g 0 acc.length cap]::.box g 52 (Ej acc++zs)::BJ d::RS) ((hp.cons _).trans ((List.Perm.swap _ _ _).trans ((List.Perm.swap _ _ _).cons _))) ?_
     clear hp
     repeat' (first|refine QX ?_|refine QB ?_;intro b|with_reducible refine QZ ?_<;>(try constructor)<;>intro hb<;>try intro hb1|((with_reducible apply(EB call57));(focus exact List.Perm.swap _ _ _);(focus exact hS.out _);(focus exact LEL.refl _);(focus exact hEx.out _);(rintro d st' ⟨l',hp',hs',rfl,rfl⟩))|fail)
     have hl':=Mat.sortM_eq hp' hs'
     exact Ir (rs:=[d]) q_x q_y (s2:=.box g 52 (Ej l'++zs)::.box b3 48 [.ar g 0 acc.length cap]::RS) (CV (CV DL)) ((AL ..).cons_cons _) (LE.of_eq q_v) (.inr ⟨hne,g,cap,zs,rfl,by rw[hl']⟩)
theorem NT.Ok.ids_len{N:NT}{R:List Rl}(h:N.Ok R)(hp:∀x∈R,x.pats.length<=4):∀y∈DX N.cs 0,y.1.ids.length<=4:=λy hy=>by
 obtain⟨k,x,h1,h2,h3⟩:=h.end_ hy
 have:=Mat.mats_len h3
 have h4:=hp x (Ah h1)
 exact CP this h4
theorem UG(N:NT)(R:List Rl)(hN:N.Ok R)(hR:R.length<=1000)(hp:∀x∈R,x.pats.length<=4)(hl:(Mat.raws R N.fs).length<=1000000)(st:St):TrF prog 37 [.ptr N.b 0] (N.st++st) λd st'=>d=.sl .shared ((Mat.sortM (Mat.raws R N.fs)).map Mt.cells)/\st'=N.st++st:=by
 have hp2:=hN.ends
 have h:=AllRaw.rest (KA N R hN hR (by have:=hp2.length_eq;rw[Ab]at this;omega) (λy hy=>by have:=hN.ids_len hp y hy;omega) st)
 rw[sortM_perm hp2]at h
 exact h
theorem NT.Ok.tok_at{N:NT}{R:List Rl}(h:N.Ok R){y:En}(hy:y∈DX N.cs 0)(s:St):∃(fd lv id:D) (UC:List D) (RJ:St),(N.st++s).Perm (.box y.2.1 119 (fd::lv::id::.sl .shared (y.2.2.map V.cells)::UC)::RJ):=by
 obtain⟨k,S,h1,h2,h3,h4⟩:=Pw N.cs 0 y hy
 have hk:k<R.length:=by rw[<-h.cl];exact(Af.1 h1).1
 have hC:=h.ch k R[k] S (Aj hk) h1
 obtain⟨x,hx, -⟩:=hC.last
 have e:KG S=x.ts:=Nn (by rw[hC.nl];exact hx)
 rw[e]at h3
 obtain⟨w,w1,w2, -⟩:=(hC.str.tm _ x hx y.2.1).1 h3
 have he:w.env=y.2.2:=by
  rw[<-w2,VA hC.str w1]at h4
  exact congrArg Prod.snd h4
 have hp:=Jo (N:=N) (M:=N.fm) (F:=N.fs) h1 s
 obtain⟨UC,RJ,hq⟩:=NC.layW w1 (.box N.b 105 (.sl .shared N.row::N.fm.cells N.fs.length)::(N.fm.resF N.fs++(((N.cs.take k).flatMap NC.st++(N.cs.drop (k+1)).flatMap NC.st)++s)))
 rw[w2,he]at hq
 exact⟨_,_,_,UC,RJ,hp.trans hq⟩
theorem ZJ(e:List V)(h0:e≠[])(hl:e.length<=1000000)(st:St):TrF prog 52 [.sl .shared (e.map V.cells)] st λd st'=>d=.sl .shared (e.map V.cells)/\st'=st :=
 ((XU .shared e h0 hl st).mono λd st' ⟨g,cap,zs,_,h1,h2⟩=>⟨g,cap,zs,h1,h2⟩).freeze (sz:=4) (by decide) (KX e) (Ab ..)
theorem eP(N:NT)(R:List Rl)(m:Mt)(hN:N.Ok R)(hR:R.length<=1000)(hid:∀y∈DX N.cs 0,y.1.ids.length<=1000000)(hv:∀y∈DX N.cs 0,y.2.2≠[]/\y.2.2.length<=1000000)(hm:m.ids.length<=1000000)(st:St):TrF prog 43 [.ptr N.b 0,.agg m.cells] (N.st++st) λd st'=>d=fq (((DX N.cs 0).find? λy=>decide (Mat.ord y.1 m=0)).map λy=>y.2.2)/\st'=N.st++st:=by
 have hIt:=Aa (Vf N R hN hR)
 have hEn:=Aa λ(st:St)=>UH (.ptr N.b 0) (.inr ⟨_,rfl⟩) st
 have hOr:Hid (∀y∈DX N.cs 0,∀st,TrF prog 71 [.agg [.i y.1.rule,.sl .shared (y.1.ids.map Bn)],.agg m.cells] st λd st'=>d=.i (Mat.ord y.1 m)/\st'=st):=λy hy st=>Rh y.1 m (hid y hy) hm st
 have hTk:=Aa λ(y:En) (hy:y∈DX N.cs 0) (s:St)=>hN.tok_at hy s
 have hHas:Hid (∀A B:Res,HasN N (A::B::(N.st++st))):=λA B=>⟨A::B::st,(AG.symm.cons _).trans AG.symm⟩
 have happ:=Aa λ(C B:St) (h:HasN N C)=>h.app C B
 have HV:=Aa hv
 clear hv hid
 generalize DX N.cs 0=E at *
 obtain⟨q,hq⟩:∃q:En->Bool,q=λy=>decide (Mat.ord y.1 m=0):=⟨_,rfl⟩
 have hqe:Hid (∀y:En,decide (Mat.ord y.1 m=0)=q y):=λy=>by rw[hq]
 rw[<-hq]
 generalize N.b=nb at *
 clear hN hR hq
 have hmc:m.cells=[.i m.rule,.sl .shared (m.ids.map Bn)]:=rfl
 rw[hmc]at hOr |-
 generalize m.ids.map Bn=MI at *
 generalize m.rule=mr at *
 clear hmc
 refine GK (G:=Vz prog (.cell 4 25) (.cell 5 4)) func43 rfl (by rw[ntmps43];exact BX rfl) (λh1 h2 h3=>KY rfl h1 h2 h3) ?_
 simp only[ntmps43]
 repeat' (first|refine QX ?_|refine QB ?_;intro b|with_reducible refine QZ ?_<;>(try constructor)<;>intro hb<;>try intro hb1|refine Qc call70 ((hEn.out _)) ?_|fail)
 rename_i b6
 obtain⟨bb,rfl⟩:∃q,q=b:=⟨_,rfl⟩
 refine Bq (st':=[]++(.box bb 4 [.b false]::.box b6 25 [.sl .tight []]::(N.st++st))) (.refl _) ?_
 refine KU hIt.out call106 q_v (λ_=>rfl) rfl (λi C=>Hid (∀y∈E.take i,q y=false)/\C=.box bb 4 [.b false]::.box b6 25 [.sl .tight []]::(N.st++st)) (λc i C=>c=Code.ret/\∃y,E.find? q=some y/\C=.box bb 4 [.b true]::.box b6 25 [.sl .shared (y.2.2.map V.cells)]::(N.st++st)) happ.out (λi C ⟨_,e⟩=>by rw[e];exact hHas.out _ _) ⟨Aa (λy hy=>by cases hy),rfl⟩ ?_ ?_ ?_
 . rintro l i y C K hy ⟨hT,rfl⟩
   have hym:=Ah hy
   have hO:=hOr.out y hym
   obtain⟨hv0,hv1⟩:=HV.out y hym
   have hCl:=Aa (ZJ y.2.2 hv0 hv1)
   have htk:=Aa (hTk.out y hym)
   have hf:q y=true->E.find? q=some y:=λh=>Zy hy hT.out h
   have hn:q y=false->Hid (∀z∈E.take (i+1),q z=false):=λhq z hz=>by
    rw[Br,hy,BQ,Bh,Ay]at hz
    rcases hz with hz|rfl
    . exact hT.out z hz
    . exact hq
   have hq1:q y=true->Mat.ord y.1 m=0:=λh=>by rw[<-hqe.out y]at h;exact of_decide_eq_true h
   have hq0:q y=false->¬Mat.ord y.1 m=0:=λh=>by rw[<-hqe.out y]at h;exact of_decide_eq_false h
   clear hIt hEn hOr hTk hHas happ HV hT hy hym hqe hm hv0 hv1
   refine(?_:Tr _ _ _ _ (AA.put (AA.put ⟨_,[]⟩ (some 10) (.agg [.i y.1.rule,.sl .shared (y.1.ids.map Bn)])) (some 11) (.ptr y.2.1 0)) (.box bb 4 [.b false]::.box b6 25 [.sl .tight []]::((N.st++st)++K)) _)
   generalize y.1.ids.map Bn=Y1 at *
   generalize y.1.rule=yr at *
   repeat' (first|refine QX ?_|refine QB ?_;intro b|with_reducible refine QZ ?_<;>(try constructor)<;>intro hb<;>try intro hb1|fail)
   obtain⟨mb,rfl⟩:∃q,q=b:=⟨_,rfl⟩
   refine⟨.box mb 52 [.i yr,.sl .shared Y1]::.box bb 4 [.b false]::.box b6 25 [.sl .tight []]::(N.st++st),Al _,λK'=>?_⟩
   clear K
   refine Ha ?_
   cases hqy:q y with
   | true =>
    have h0:=hq1 hqy
    have hfo:=Aa (hf hqy)
    rw[h0]at hO
    obtain⟨fd,lv,id,UC,RJ,hp⟩:=htk.out (st++K')
    clear hf hn hq1 hq0 hqy htk h0
    refine Bq (st':=.box mb 52 [.i yr,.sl .shared Y1]::.box bb 4 [.b false]::.box b6 25 [.sl .tight []]::.box y.2.1 119 (fd::lv::id::.sl .shared (y.2.2.map V.cells)::UC)::RJ) ((((show(N.st++st++K').Perm _ by rw[Ai];exact hp).cons _).cons _).cons _) ?_
    have hpb:Hid ((Res.box y.2.1 119 (fd::lv::id::.sl .shared (y.2.2.map V.cells)::UC)::RJ).Perm (N.st++st++K')):=by rw[Ai];exact hp.symm
    clear hp
    obtain⟨ye,hye⟩:∃ye,ye=y.2.2.map V.cells:=⟨_,rfl⟩
    rw[<-hye]at hCl hpb |-
    obtain⟨tb,htb⟩:∃tb,tb=y.2.1:=⟨_,rfl⟩
    rw[<-htb]at hpb |-
    replace hye:=Aa hye
    replace htb:=Aa htb
    replace hO:=Aa hO
    repeat' (first|refine QX ?_|refine QB ?_;intro b|with_reducible refine QZ ?_<;>(try constructor)<;>intro hb<;>try intro hb1|refine Qc call71 ((hO.out _)) ?_|refine Qc call52 ((hCl.out _)) ?_|fail)
    exact⟨_::(_::_::(N.st++st++K')),((hpb.out.cons _).cons _).cons _,.box bb 4 [.b true]::.box b6 25 [.sl .shared ye]::(N.st++st),AL ..,rfl,y,hfo.out,by rw[hye.out]⟩
   | false =>
    have h0:=hq0 hqy
    have hno:=hn hqy
    clear hf hn hq1 hq0 hqy htk hCl
    replace hO:=Aa hO
    repeat' (first|refine QX ?_|refine QB ?_;intro b|with_reducible refine QZ ?_<;>(try constructor)<;>intro hb<;>try intro hb1|refine Qc call71 ((hO.out _)) ?_|fail)
    exact⟨_,.refl _,.box bb 4 [.b false]::.box b6 25 [.sl .tight []]::(N.st++st),AL ..,hno,rfl⟩
 . rintro d K1 C' rfl ⟨hT,rfl⟩
   have hn:=hT.out
   rw[Db]at hn
   have hL:E.find? q=none:=Dr.2 λx hx=>by rw[hn x hx];exact AM
   rw[hL]
   clear hIt hEn hOr hTk hHas happ HV hT hn hL hqe
   generalize N.st++st=RS at *
   change Tr _ _ _ _ _ _ _
   refine Bq (st':=BJ d::.box bb 4 [.b false]::.box b6 25 [.sl .tight []]::RS) (.refl _) ?_
   repeat' (first|refine QX ?_|refine QB ?_;intro b|with_reducible refine QZ ?_<;>(try constructor)<;>intro hb<;>try intro hb1|fail)
   all_goals exact Gh (rs:=[d]) (by simp) q_y (by repeat(first|exact DL|apply CV)) ⟨_,_,rfl,EE q_v q_m q_v q_v,EE q_v q_m q_v q_v⟩ (((Al _).cons _).cons _) (LE.refl _) ⟨rfl,rfl⟩
 . rintro c d i K1 C' rfl ⟨rfl,y,hL,rfl⟩
   rw[hL]
   clear hIt hEn hOr hTk hHas happ HV hL hqe
   unfold fq
   dsimp only[Option.map_some]
   generalize y.2.2.map V.cells=Y2 at *
   generalize N.st++st=RS at *
   change Tr _ _ _ _ _ _ _
   refine Bq (st':=BJ d::.box bb 4 [.b true]::.box b6 25 [.sl .shared Y2]::RS) (.refl _) ?_
   repeat' (first|refine QX ?_|refine QB ?_;intro b|with_reducible refine QZ ?_<;>(try constructor)<;>intro hb<;>try intro hb1|fail)
   all_goals exact Gh (rs:=[d]) (by simp) q_y (by repeat(first|exact DL|apply CV)) ⟨_,_,rfl,EE q_v q_m q_v q_v,EE q_v q_m q_v q_v⟩ (((Al _).cons _).cons _) (LE.refl _) ⟨rfl,rfl⟩
end
section
attribute [local push_cast] Bs Bn BV V.cells_mk V.cells_len Nat.mul_one Int.sub_zero List.map_nil beq_self_eq_true bne_self_eq_false List.head?_cons Bool.not_true Bool.not_false Nat.zero_add
attribute [-instance] Ch Cr BL Dl
theorem UD(N:NT)(R:List Rl)(id:Int)(h:N.Ok R)(hR:R.length<=1000)(st:St):TrF prog 35 [.ptr N.b 0,.i id] (N.st++st) λd st'=>∃N':NT,N'.Ok R/\N'.b=N.b/\((id∉N.fs.map Fc.id/\N'.fs=N.fs/\d=.b false)\/(id∈N.fs.map Fc.id/\N'.fs.Perm (EV id N.fs)/\d=.b true))/\(N'.st++st).Perm st':=by
 have hget:=SR N R id h st
 cases ha:Mat.find N.fs id with
|none =>
  have hin:id∉N.fs.map Fc.id:=λhm=>by
   obtain⟨g,hg,e⟩:=Ax.1 hm
   have:=Dr.1 ha g hg
   simp[e]at this
  have hfin:Hid (∃N':NT,N'.Ok R/\N'.b=N.b/\((id∉N.fs.map Fc.id/\N'.fs=N.fs/\D.b false=.b false)\/(id∈N.fs.map Fc.id/\N'.fs.Perm (EV id N.fs)/\D.b false=.b true))/\(N'.st++st).Perm (N.st++st)):=⟨N,h,rfl,.inl ⟨hin,rfl,rfl⟩,.refl _⟩
  rw[ha]at hget
  dsimp only[IA]at hget
  replace hget:=Aa hget
  clear ha hin h hR
  generalize N.st++st=RS at *
  refine Qin [4] func35 results35 ntmps35 ?_
  repeat' (first|refine QV ?_|((with_reducible apply Jj);(focus kernel_rfl);(focus exact q_v))|((with_reducible apply(Bj (f:=64) (henter:=call64) (hp:=Ao _) (h:=hget.out)));(focus exact q_v);(focus exact q_l);(rintro d0 st0 ⟨rfl,rfl⟩))|refine QY ?_|refine QB ?_;intro b|with_reducible refine QZ ?_<;>(try constructor)<;>intro hb<;>try intro hb1|fail)
  all_goals exact Bl (by simp) q_y (AL ..) (LE.of_eq q_v) hfin.out
|some f =>
  have hfid:f.id=id:=by have:=Gs ha;simpa using this
  have hfm:f∈N.fs:=CY ha
  have hin:id∈N.fs.map Fc.id:=Ax.2 ⟨f,hfm,hfid⟩
  obtain⟨i0,hi0⟩:=BT hfm
  obtain⟨n,hn⟩:∃n,N.fs.length=n+1:=⟨N.fs.length - 1,by have:=mX hfm;omega⟩
  obtain⟨z,hz⟩:=gEx (l:=N.fs) (i:=n) q_o
  obtain⟨G,hG⟩:∃G,G=Cv N.fs i0 z:=⟨_,rfl⟩
  have hF:N.fs.Perm (f::G):=by rw[hG];exact Ov hn hi0 hz
  have hnd2:(f.id::G.map Fc.id).Nodup:=(hF.map Fc.id).nodup_iff.1 h.nodup
  have hGw:Hid (G.Perm (EV id N.fs)):=by
   have:=LZ hF (Ba.1 hnd2).1
   rw[hfid]at this
   exact this
  have hGm:Hid (∀x∈G,x∈N.fs):=λx hx=>hF.mem_iff.2 (Ad _ hx)
  have hGl:G.length<=1000:=by
   have h1:=hF.length_eq
   have h2:=h.fl
   rw[An]at h1
   omega
  rw[ha]at hget
  dsimp only[IA]at hget
  obtain⟨W,hW⟩:∃W:MemP->St,W=λM=>M.resF G++N.cs.flatMap NC.st++st:=⟨_,rfl⟩
  have hWe:Hid (∀M,.box N.b 105 (.sl .shared N.row::M.cells G.length)::W M=FQ N M G N.cs++st):=λM=>by rw[hW];rfl
  have hput:∀fb:Res,TrF prog 68 [.ptr N.b 1,.i id] (fb::(N.st++st)) λd st'=>∃M':MemP,M'.okF G/\d=.tup []/\(fb::.box N.b 105 (.sl .shared N.row::M'.cells G.length)::W M').Perm st':=λfb=>by
   have h1:=bJ N R f z i0 n h hn hi0 hz (fb::st)
   rw[hfid,<-hG]at h1
   exact(TrF.perm AG.symm h1).mono λd st' ⟨M',a1,a2,a3⟩=>⟨M',a1,a2,by rw[hWe.out];exact AG.symm.trans a3⟩
  have hE:Hid (∀fb:Res,∃(d:D) (st':St) (M':MemP),M'.okF G/\d=.tup []/\(fb::.box N.b 105 (.sl .shared N.row::M'.cells G.length)::W M').Perm st'):=λfb=>by
   obtain⟨M0,hM0⟩:=Wg G (Ba.1 hnd2).2
   exact⟨_,_,M0,hM0,rfl,.refl _⟩
  clear hW
  replace hget:=Aa hget
  have HN:=Aa h
  have hcl:=h.cl
  clear ha h hfid hfm hi0 hn hz hG hF hnd2
  rw[show f.cells=[.i f.id,.i f.time,.i f.tmpl,.i f.ver,.sl .shared (f.s.map V.cells)]from rfl]at hget
  generalize f.s.map V.cells=VS at *
  obtain⟨RS,hRS⟩:∃RS,RS=N.st++st:=⟨_,rfl⟩
  rw[<-hRS]at hget hput |-
  have hrl:N.row.length=R.length:=by unfold NT.row;rw[Ab,hcl]
  have hrow:Hid (∀(i:Nat) (S:NC),N.cs[i]?=some S->N.row[i]?=some [.ptr S.c 0]):=λi S h=>by unfold NT.row;rw[Ar,h];rfl
  obtain⟨cl,hcl2⟩:∃cl:MemP->List D,cl=λM=>M.cells G.length:=⟨_,rfl⟩
  have hcle:∀M:MemP,M.cells G.length=cl M:=λM=>by rw[hcl2]
  simp only[hcle]at hput hE hWe
  clear hcle hcl2 hRS
  obtain⟨ROW,hROW⟩:∃ROW,ROW=N.row:=⟨_,rfl⟩
  rw[<-hROW]at hput hE hWe hrl hrow
  replace hROW:=Aa hROW
  replace hput:=Aa hput
  refine Qin [4] func35 results35 ntmps35 ?_
  repeat' (first|refine QV ?_|((with_reducible apply Jj);(focus kernel_rfl);(focus exact q_v))|((with_reducible apply(Bj (f:=64) (henter:=call64) (hp:=Ao _) (h:=hget.out)));(focus exact q_v);(focus exact q_l);(rintro d0 st0 ⟨rfl,rfl⟩))|((with_reducible apply(Bj (f:=68) (henter:=call68) (hp:=Ao _) (h:=hput.out _)));(focus exact q_v);(focus exact q_l);(rintro d0 st0 ⟨M2,hok2,rfl,hp2⟩))|((with_reducible refine Bq hp2.symm ?_);clear hp2)|refine QY ?_|refine QB ?_;intro b|with_reducible refine QZ ?_<;>(try constructor)<;>intro hb<;>try intro hb1|fail)
  clear hget hput hE
  skip
  focus
   have hW2:Hid (∀B:Res,(B::.box N.b 105 (.sl .shared ROW::cl M2)::W M2).Perm (B::(FQ N M2 (G) N.cs++st))):=λB=>by rw[hWe.out]
   refine Bw (ι:=Nat) (λi A st'=>i<=R.length/\A.df=[]/\A.e 1=.i id/\A.e 29=.sl .shared ROW/\A.e 30=.i R.length/\A.e 31=.i i/\∃(B:Res) (cs':List NC),Hid (StepC N.cs R N.fs (G) i cs')/\st'.Perm (B::(FQ N M2 (G) cs'++st))) (λi=>R.length - i) 0 ⟨Aq _,Qf,Qf,Qf,Qf,Qf,_,N.cs,StepC.zero ..,hW2.out _⟩ ?_
   clear hW2 hWe
   rintro i A st' ⟨hi,hdf,e1,e29,e30,e31,B,cs',HS,hp⟩
   by_cases hlt:i<R.length
   . obtain⟨x,hx⟩:=gEx hlt
     obtain⟨S,hS⟩:∃S,N.cs[i]?=some S:=⟨_,Aj (by rw[hcl];exact hlt)⟩
     have hS2:=(HS.out.todo i (Ap _)).trans hS
     have hC:=HN.out.ch i x S hx hS
     have hrc:=hrow.out i S hS
     obtain⟨RR,hRR⟩:∃RR,RR=Res.box N.b 105 (.sl .shared N.row::M2.cells (G).length)::(M2.resF (G)++(((cs'.take i).flatMap NC.st++(cs'.drop (i+1)).flatMap NC.st)++st)):=⟨_,rfl⟩
     have hcome:Hid (TrF prog 69 [.ptr S.c 0,.i id] (S.st++(B::RR)) λd st0=>∃cs2:List NC,Hid (StepC N.cs R N.fs (G) (i+1) cs2)/\d=.tup []/\st0.Perm (B::(FQ N M2 (G) cs2++st))):=by
      have h1:=Zo S id hC.str hC.loc (by rw[hC.nl];omega) (B::RR)
      refine h1.mono λd st0 ⟨S',a1,a2,a3⟩=>⟨cs'.set i S',HS.out.next hx hS a1.c (hC.leave a1 hGw.out),a2,?_⟩
      refine a3.symm.trans (AG.trans (List.Perm.cons _ ?_))
      rw[hRR]
      exact(Rg hS2 st).symm
     have hp2:st'.Perm (S.st++(B::RR)):=by
      refine hp.trans (List.Perm.trans (List.Perm.cons _ ?_) AG.symm)
      rw[hRR]
      exact Jo hS2 st
     refine Bq hp2 ?_
     clear hp hp2 hRR HS hC hS hS2 hx hrow
     generalize S.st++(B::RR)=ST at *
     generalize S.c=sc at *
     repeat' (first|refine QV ?_|((with_reducible apply(Bj (f:=69) (henter:=call69) (hp:=Ao _) (h:=hcome.out)));(focus exact q_v);(focus exact q_l);(rintro d0 st0 ⟨cs2,hS2,rfl,hp4⟩))|refine QY ?_|refine QB ?_;intro b|with_reducible refine QZ ?_<;>(try constructor)<;>intro hb<;>try intro hb1|fail)
     refine⟨i+1,_,Al _,⟨hlt,?_,?_,?_,?_,?_,B,cs2,hS2,hp4⟩,by omega⟩
     all_goals exact Qf
   . have hil:i=R.length:=by omega
     subst hil
     have hfin:Hid (∃N':NT,N'.Ok R/\N'.b=N.b/\((id∉N.fs.map Fc.id/\N'.fs=N.fs/\D.b true=.b false)\/(id∈N.fs.map Fc.id/\N'.fs.Perm (EV id N.fs)/\D.b true=.b true))/\(N'.st++st).Perm (FQ N M2 G cs'++st)):=by
      refine⟨⟨N.b,cs',M2,G⟩,⟨hok2,⟨λz hz=>HN.out.fk.f z (hGm.out z hz),?_⟩,?_,λz hz=>HN.out.f0 z (hGm.out z hz),HS.out.len.trans hcl,λj x S h1 h2=>HS.out.done j x S (Af.1 h1).1 h1 h2⟩,rfl,.inr ⟨hin,hGw.out,rfl⟩,?_⟩
      . show G.length<=1000000
        omega
      . exact hGl
      . have h1:(⟨N.b,cs',M2,G⟩:NT).row=N.row:=HS.out.row_eq
        unfold NT.st NT.cells FQ
        rw[h1]
     refine Bq hp ?_
     clear hp HS HN hrow hok2 hGw hGm hin
     generalize FQ N M2 (G) cs'++st=ST at *
     repeat' (first|refine QX ?_|refine QB ?_;intro b|with_reducible refine QZ ?_<;>(try constructor)<;>intro hb<;>try intro hb1|fail)
     exact Bl (by simp) q_y (AL ..) (LE.of_eq q_v) hfin.out
end
end Go.Proofs.YtoeidpmjifjplaaGreat
section
namespace Go.Proofs
open Go.Shelf
def Tryz.sortFact_ren:Go.Shelf.Ren:=⟨fun|6=>109|15=>93|14=>145|28=>137|29=>138|20=>172|21=>173|22=>174|23=>175|24=>176|25=>177|26=>178|27=>179|46=>195|47=>168|48=>169|49=>196|50=>197|57=>207|n=>n,fun|22=>24|24=>43|25=>132|3=>3|39=>161|0=>0|53=>210|55=>212|4=>4|46=>204|45=>203|50=>168|5=>5|9=>9|66=>240|70=>244|76=>260|77=>261|n=>n,fun|n=>n⟩
theorem Tryz.sortFact:Go.Proofs.SlLaysF0.n6 Tryz.prog Tryz.sortFact_ren:={
 mixed:=by kernel_rfl
 f6:=⟨Tryz.f109.name,by decide,Tryz.func109.trans (congrArg some (by kernel_rfl))⟩
 f14:=⟨Tryz.f145.name,by decide,Tryz.func145.trans (congrArg some (by kernel_rfl))⟩
 f15:=Tryz.func93.trans (congrArg some (by kernel_rfl))
 f20:=⟨Tryz.f172.name,by decide,Tryz.func172.trans (congrArg some (by kernel_rfl))⟩
 f21:=⟨Tryz.f173.name,by decide,Tryz.func173.trans (congrArg some (by kernel_rfl))⟩
 f22:=⟨Tryz.f174.name,by decide,Tryz.func174.trans (congrArg some (by kernel_rfl))⟩
 f23:=⟨Tryz.f175.name,by decide,Tryz.func175.trans (congrArg some (by kernel_rfl))⟩
 f24:=⟨Tryz.f176.name,by decide,Tryz.func176.trans (congrArg some (by kernel_rfl))⟩
 f25:=⟨Tryz.f177.name,by decide,Tryz.func177.trans (congrArg some (by kernel_rfl))⟩
 f26:=⟨Tryz.f178.name,by decide,Tryz.func178.trans (congrArg some (by kernel_rfl))⟩
 f27:=⟨Tryz.f179.name,by decide,Tryz.func179.trans (congrArg some (by kernel_rfl))⟩
 f28:=Tryz.func137.trans (congrArg some (by kernel_rfl))
 f29:=Tryz.func138.trans (congrArg some (by kernel_rfl))
 f46:=⟨Tryz.f195.name,by decide,Tryz.func195.trans (congrArg some (by kernel_rfl))⟩
 f47:=Tryz.func168.trans (congrArg some (by kernel_rfl))
 f48:=Tryz.func169.trans (congrArg some (by kernel_rfl))
 f49:=⟨Tryz.f196.name,by decide,Tryz.func196.trans (congrArg some (by kernel_rfl))⟩
 f50:=⟨Tryz.f197.name,by decide,Tryz.func197.trans (congrArg some (by kernel_rfl))⟩
 f57:=⟨Tryz.f207.name,by decide,Tryz.func207.trans (congrArg some (by kernel_rfl))⟩
 t0:=Tryz.underlying0
 a0:=Tryz.isAgg0
 z0:=Tryz.sizeOf0
 v0:=Tryz.zeroValue0
 t3:=Tryz.underlying3
 a3:=Tryz.isAgg3
 z3:=Tryz.sizeOf3
 v3:=Tryz.zeroValue3
 t4:=Tryz.underlying4
 a4:=Tryz.isAgg4
 z4:=Tryz.sizeOf4
 v4:=Tryz.zeroValue4
 t5:=Tryz.underlying5
 a5:=Tryz.isAgg5
 z5:=Tryz.sizeOf5
 v5:=Tryz.zeroValue5
 t9:=Tryz.underlying9
 a9:=Tryz.isAgg9
 z9:=Tryz.sizeOf9
 v9:=Tryz.zeroValue9
 t22:=Tryz.underlying24
 a22:=Tryz.isAgg24
 z22:=Tryz.sizeOf24
 v22:=Tryz.zeroValue24
 t25:=Tryz.underlying132
 a25:=Tryz.isAgg132
 z25:=Tryz.sizeOf132
 v25:=Tryz.zeroValue132
 t39:=Tryz.underlying161
 a39:=Tryz.isAgg161
 z39:=Tryz.sizeOf161
 v39:=Tryz.zeroValue161
 t45:=Tryz.underlying203
 a45:=Tryz.isAgg203
 z45:=Tryz.sizeOf203
 v45:=Tryz.zeroValue203
 t46:=Tryz.underlying204
 a46:=Tryz.isAgg204
 z46:=Tryz.sizeOf204
 v46:=Tryz.zeroValue204
 t50:=Tryz.underlying168
 a50:=Tryz.isAgg168
 z50:=Tryz.sizeOf168
 v50:=Tryz.zeroValue168
 t53:=Tryz.underlying210
 a53:=Tryz.isAgg210
 z53:=Tryz.sizeOf210
 v53:=Tryz.zeroValue210
 t55:=Tryz.underlying212
 a55:=Tryz.isAgg212
 z55:=Tryz.sizeOf212
 v55:=Tryz.zeroValue212
 t66:=Tryz.underlying240
 a66:=Tryz.isAgg240
 z66:=Tryz.sizeOf240
 v66:=Tryz.zeroValue240
 t70:=Tryz.underlying244
 a70:=Tryz.isAgg244
 z70:=Tryz.sizeOf244
 v70:=Tryz.zeroValue244
 t76:=Tryz.underlying260
 a76:=Tryz.isAgg260
 z76:=Tryz.sizeOf260
 v76:=Tryz.zeroValue260
 t77:=Tryz.underlying261
 a77:=Tryz.isAgg261
 z77:=Tryz.sizeOf261
 v77:=Tryz.zeroValue261}
end Go.Proofs
end
namespace Go.Proofs.YtoeidpmjifjplaaGreat
open Go.RowKit Tryz
section
attribute [local push_cast] Bs Bn BV V.cells_mk V.cells_len Nat.mul_one Int.sub_zero List.map_nil beq_self_eq_true bne_self_eq_false List.head?_cons Bool.not_true Bool.not_false Nat.zero_add
open Go.RowKit Go.Sort
theorem Zz(a b:Fc)(st:St):TrF prog 74 [.agg a.cells,.agg b.cells] st λd st'=>d=.i (V.sgn a.id b.id)/\st'=st:=by
 have hC:=Aa (RY a.id b.id)
 unfold Fc.cells
 generalize V.sgn a.id b.id=R at *
 generalize a.s.map V.cells=AC at *
 generalize b.s.map V.cells=BC at *
 generalize a.id=r1 at *
 generalize b.id=r2 at *
 refine Qin [4] func74 results74 ntmps74 ?_
 repeat' (first|refine QV ?_|((with_reducible refine QW ?_);intro hne;simp only[nes,ne1,and_assoc]at hne;repeat(have hq:=hne.1;replace hne:=hne.2))|refine QY ?_|refine QB ?_;intro b|with_reducible refine QZ ?_<;>(try constructor)<;>intro hb<;>try intro hb1|refine Qc call75 ((hC.out _)) ?_|fail)
 all_goals exact Cf
structure CellF (O:Nat->Nat->Prop)(w:World) where
 vs:List Value
 f:Fc
 h:RepL O w vs f.cells
variable {O:Nat->Nat->Prop} {w:World}
theorem CellF.len(c:CellF O w):c.vs.length=5:=c.h.1
theorem Vk:∀{l:List Fc} {us:List Value},RepL O w us (CM l)->∃cs:List (CellF O w),cs.map CellF.f=l/\(cs.map CellF.vs).flatten=us
|[],us,h=>by
  obtain rfl:=h.inv_nil
  exact⟨[],rfl,rfl⟩
|f::l,us,h=>by
  have e:CM (f::l)=f.cells++CM l:=by
   unfold CM
   rw[Aw,AK]
  rw[e]at h
  have h1:=h.take 5
  have h2:=h.drop 5
  rw[f7 (Fc.cells_len f)]at h1
  rw[PW (Fc.cells_len f)]at h2
  obtain⟨cs,k1,k2⟩:=Vk h2
  refine⟨⟨us.take 5,f,h1⟩::cs,by rw[Aw,k1],?_⟩
  rw[Aw,AK,k2]
  exact Bz 5 us
theorem Sf:∀(cs:List (CellF O w)) (t:Nat),((cs.map CellF.vs).flatten)[t]?=(cs[t / 5]?).bind λc=>c.vs[t % 5]?
|[],t=>by simp
|c::cs,t=>by
  rw[Aw,AK]
  by_cases ht:t<5
  . rw[AY (by rw[c.len];exact ht),Nat.div_eq_of_lt ht,NU ht];rfl
  . rw[BN (by rw[c.len];omega),c.len,Sf cs (t - 5)]
    have h1:t / 5=(t - 5) / 5+1:=by omega
    have h2:t % 5=(t - 5) % 5:=by omega
    rw[h1,h2,Bp]
theorem Pq[Inhabited (CellF O w)](cs:List (CellF O w)):(flatK CellF.vs 5 cs.toArray).toList=(cs.map CellF.vs).flatten:=by
 apply Cu
 intro t
 rw[Sf]
 by_cases ht:t<cs.length*5
 . have hs:t<(flatK CellF.vs 5 cs.toArray).size:=by rw[size_flatK];simpa using ht
   have h1:=get_flatK CellF.vs 5 cs.toArray t (by simpa using ht)
   rw[getElem!_pos _ t hs]at h1
   rw[BE,AZ hs,h1]
   have h2:t / 5<cs.length:=by omega
   rw[Aj h2,BS,getElem!_pos _ (t / 5) (by simpa using h2)]
   have h3:t % 5<(cs[t / 5]).vs.length:=by rw[CellF.len];omega
   simp only[oc]
   rw[getElem!_pos _ (t % 5) h3,Aj h3]
 . rw[BA (l:=cs) q_o,BE,Ee (by rw[size_flatK];simp;omega)]
   rfl
theorem Se:∀cs:List (CellF O w),RepL O w (cs.map CellF.vs).flatten (CM (cs.map CellF.f))
|[]=>RepL.nil
|c::cs=>by
  have e:CM ((c::cs).map CellF.f)=c.f.cells++CM (cs.map CellF.f):=by
   unfold CM
   rw[Aw,Aw,AK]
  rw[e,Aw,AK]
  exact RepL.append c.h (Se cs)
theorem QN(l:List Fc):∀d∈CM l,d.leaf=true:=by
 intro d hd
 obtain⟨e,he,hd⟩:=Hf.1 hd
 obtain⟨m, -,rfl⟩:=Ax.1 he
 unfold Fc.cells at hd
 simp only[Az,AU,or_false]at hd
 rcases hd with rfl|rfl|rfl|rfl|rfl<;>rfl
theorem ltF(x y:CellF O w):ltOf (λx y:CellF O w=>V.sgn x.f.id y.f.id) x y=decide (x.f.id<y.f.id):=decide_eq_decide.2 Mat.sgn_neg
theorem mu(O:Nat->Nat->Prop)(w:World):SWO (ltOf (λx y:CellF O w=>V.sgn x.f.id y.f.id)) where
 irrefl x:=by rw[ltF];simp
 trans x y z h1 h2:=by
  rw[ltF]at *
  have h1:=of_decide_eq_true h1
  have h2:=of_decide_eq_true h2
  exact decide_eq_true q_o
 ntrans x y z h1 h2:=by
  rw[ltF]at *
  have h1:=of_decide_eq_false h1
  have h2:=of_decide_eq_false h2
  exact decide_eq_false q_o
theorem ZG{g : Nat}{ty:TypeId}{cs:List D}{st:St}{w:World}{us:Array Value}[Inhabited (CellF (OwnS (.box g ty cs::st)) w)](hb:w.heap[g]?=some (.cells us ty (0,0)))(n:Nat) :
 CmpLays prog 74 #[] CellF.vs 5 (λx y:CellF (OwnS (.box g ty cs::st)) w=>V.sgn x.f.id y.f.id) g 0 n w:=by
 intro m os dk _ x y
 have he:Ext (OwnS (.box g ty cs::st)) w (OwnS []) (sortWorldK CellF.vs 5 w g 0 m dk os):=by
  unfold sortWorldK putRowK
  exact TG hb m _ os
 generalize sortWorldK CellF.vs 5 w g 0 m dk os=W at he |-
 have hx:∀c:CellF (OwnS (.box g ty cs::st)) w,Rep (OwnS []) W (.agg c.vs.toArray) (.agg c.f.cells):=λc=>by
  have hr:=c.h.ext he
  exact .agg _ _ hr.1 hr.2
 have hv:RepL (OwnS []) W (#[Value.agg x.vs.toArray,Value.agg y.vs.toArray]++(#[]:Array Value)).toList [.agg x.f.cells,.agg y.f.cells]:=by
  rw[Array.append_empty]
  exact RepL.cons (hx x) (RepL.cons (hx y) RepL.nil)
 have hcall:=Zz x.f y.f [] _ W hv (Nq W)
 refine hcall.mono ?_
 rintro e w' ⟨v,rfl,d,st',h1, -,h3,rfl,rfl⟩
 have hv1:=DE h1
 subst hv1
 exact⟨rfl,Mx h3⟩
def cT (l:List Fc):Prop:=l.Pairwise λa b=>a.id<=b.id
theorem cu(g cap:Nat)(l:List Fc)(zs:List D)(hl0:l≠[])(hll:l.length<=1000000)(st:St):TrF prog 109 [.ar g 0 l.length cap,.fn (.func 74) [] []] (.box g 43 (CM l++zs)::st) λd st'=>∃l',l'.Perm l/\cT l'/\d=.tup []/\st'=.box g 43 (CM l'++zs)::st:=by
 intro vs w hv hh
 obtain⟨lv⟩:=vs
 obtain⟨v0,t0,e0,h1,hv⟩:=hv.inv_cons
 obtain⟨v1,t1,e1,h2,hv⟩:=hv.inv_cons
 have e2:=hv.inv_nil
 dsimp only at e0
 subst e2 e1 e0
 cases h1 with
|ar _ _ _ _ c1 c2 =>
 cases h2 with
|fn _ us1 us2 _ _ q1 q2 q3 q4 =>
 obtain rfl:us1=[]:=Au q1
 obtain rfl:us2=[]:=Au q2
 obtain⟨⟨us,hb,hr⟩,hlc⟩:=hh.2 _ (Ag ..)
 have hrt:=hr.take (l.length*5)
 rw[Cl (by rw[Dw];exact Ap _),Bf (l:=CM l) (by rw[Dw];exact Ap _)]at hrt
 obtain⟨cs,hcm,hcu⟩:=Vk hrt
 have hcl:cs.length=l.length:=by
  have:=congrArg List.length hcm
  rwa[Ab]at this
 obtain⟨c0,hc0⟩:∃c0,c0∈cs:=by
  cases cs with
  | nil=>exact absurd hcm.symm hl0
  | cons c cs=>exact⟨c,Ag ..⟩
 haveI:Inhabited (CellF (OwnS (.box g 43 (CM l++zs)::st)) w):=⟨c0⟩
 have hul:us.size=l.length*5+zs.length:=by
  have:=hr.1
  rw[Ae,Dw,AR]at this
  exact this
 have hfl:(flatK CellF.vs 5 cs.toArray).toList=us.toList.take (l.length*5):=by rw[Pq,hcu]
 have hH:HoldsK CellF.vs 5 w g 0 cs.toArray:=λj hj=>by
  have hj2:j<l.length*5:=by rw[size_flatK]at hj;simpa [hcl]using hj
  refine⟨?_,?_⟩
  . rw[Bt]
    have h3:(flatK CellF.vs 5 cs.toArray).toList[j]?=us.toList[j]?:=by rw[hfl,Dq,if_pos hj2]
    rw[BE,BE,AZ hj,AZ q_o]at h3
    rw[getElem!_pos _ j hj]
    show _=some (id _)
    rw[id,Ci h3]
    have:=cell_of_row w g j us 43 (0,0) hb
    rw[this,AZ q_o]
  . unfold World.frozen?
    dsimp only
    rw[hb];simp
 have hc:=AnyQ.slices_SortFunc Tryz.sortFact 5 Tryz.isAgg43 Tryz.sizeOf43 CellF.vs (λx=>x.len) (λx v hv=>x.h.leafOne (λd hd=>QN [x.f] d (by unfold CM;rw[Aw,BF,AK,List.flatten_nil,Bi];exact hd)) v hv) (λx y:CellF (OwnS (.box g 43 (CM l++zs)::st)) w=>V.sgn x.f.id y.f.id) (mu _ _) 74 #[] g 0 cap cs.toArray w call74 (ZG hb _) hH (AD.1 hb).1 (by simp;omega)
 rw[show cs.toArray.size=l.length by simpa using hcl]at hc
 refine hc.mono ?_
 rintro e w' ⟨rfl,d',n,os,⟨hps, -,hpp⟩,hsrt,rfl⟩
 have hds:d'.size=l.length:=by rw[hps];simpa using hcl
 have hext:∀a:Array (CellF (OwnS (.box g 43 (CM l++zs)::st)) w),a.size=l.length->(a.extract 0 l.length).toList=a.toList:=λa ha=>by
  rw[oe]
  simp only[Hi,Lp,Ca]
  exact Bf (by rw[AR,ha];exact Ap _)
 rw[hext d' hds,hext cs.toArray (by simpa using hcl)]at hpp
 have hperm:(d'.toList.map CellF.f).Perm l:=(hpp.map CellF.f).trans (Ij hcm)
 have hsort:cT (d'.toList.map CellF.f):=by
  refine Fu.2 λi j hi hj hij=>?_
  rw[Ab,AR]at hi hj
  have h3:=hsrt i j (Aq _) hij q_o
  rw[ltF,getElem!_pos _ i hi,getElem!_pos _ j hj]at h3
  rw[Dv,Dv,Kl,Kl]
  have:=of_decide_eq_false h3
  omega
 obtain⟨F,hF⟩:∃F,flatK CellF.vs 5 d'=F:=⟨_,rfl⟩
 have hFl:F.toList=(d'.toList.map CellF.vs).flatten:=by
  have:=Pq d'.toList
  rw[of,hF]at this
  exact this
 have hFs:F.size=l.length*5:=by rw[<-hF,size_flatK,hds]
 have hFll:F.toList.length=l.length*5:=by rw[<-hFs];exact AR
 have hus:(Sort.putCells id 0 F us).toList=(d'.toList.map CellF.vs).flatten++us.toList.drop (l.length*5):=by
  rw[<-hFl]
  apply Cu
  intro k
  unfold Sort.putCells
  rw[BE,Qo]
  by_cases hk:k<l.length*5
  . have hk2:k<us.size:=by omega
    rw[AY q_o,AZ hk2,BE,AZ (by omega:k<F.size),CA,if_pos ⟨Aq _,by omega⟩,Lp,getElem!_pos _ k q_o]
    rfl
  . have e:l.length*5+(k - F.toList.length)=k:=by omega
    rw[BN q_o,Eu,e,BE]
    cases us[k]? with
    | none=>rfl
    | some u=>rw[CA,if_neg q_o]
 have hrep:RepL (OwnS (.box g 43 (CM l++zs)::st)) w (Sort.putCells id 0 F us).toList (CM (d'.toList.map CellF.f)++zs):=by
  rw[hus]
  refine RepL.append (Se _) ?_
  have:=hr.drop (l.length*5)
  rwa[JV,AB (l:=CM l) (by rw[Dw];omega),AO,show l.length*5 - (CM l).length=0 by rw[Dw];omega,Ca]at this
 have hlt:=(AD.1 hb).1
 have hs:=Sz (w':=Sort.putRow id (Sort.ahead w n) g 0 F) hh hb (by simp[Sort.putCells]) (Fh _ _) rfl rfl rfl (by simp[Sort.putRow,Sort.mapBlock,Sort.ahead]) (by
  simp only[Sort.putRow,Sort.mapBlock,Sort.ahead]
  rw[Dg]
  simp[hb,Sort.onCells]) (λk hk=>by
  simp only[Sort.putRow,Sort.mapBlock,Sort.ahead]
  rw[Dg,if_neg (Ln hk)]) hrep (λd hd=>by
   rw[Bh]at hd
   exact hd.elim (QN _ d) λh=>hlc d (Bc _ h))
 have hw:sortWorldK CellF.vs 5 w g 0 n d' os=grow (Sort.putRow id (Sort.ahead w n) g 0 F) os:=by rw[<-hF];rfl
 rw[hw]
 have hg:=Pe hs.1 os
 exact⟨_,rfl,.tup [],_,.tup [] [] rfl (λi h=>absurd h (BI _)),hg,hs.2.trans (Pf _ _ os),d'.toList.map CellF.f,hperm,hsort,rfl,rfl⟩
theorem Vc(st:St):TrF prog 109 [.sl .tight [],.fn (.func 74) [] []] st λd st'=>d=.tup []/\st'=st:=by
 intro vs w hv hh
 obtain⟨lv⟩:=vs
 obtain⟨v0,t0,e0,h1,hv⟩:=hv.inv_cons
 obtain⟨v1,t1,e1,h2,hv⟩:=hv.inv_cons
 have e2:=hv.inv_nil
 dsimp only at e0
 subst e2 e1 e0
 obtain⟨a,cap,us,sz,rfl, -⟩:=Ep h1
 have hc:Calls prog 109 #[.slice a 0 cap,v1] w λe w'=>e=.returned (.tuple #[])/\w'=w:=AnyF.slices_SortFunc_none Tryz.sortFact a cap v1 w
 refine hc.mono ?_
 rintro e w' ⟨rfl,rfl⟩
 exact⟨_,rfl,.tup [],st,.tup [] [] rfl (λi h=>absurd h (BI _)),hh,Ext.refl _ _,rfl,rfl⟩
end
end Go.Proofs.YtoeidpmjifjplaaGreat
