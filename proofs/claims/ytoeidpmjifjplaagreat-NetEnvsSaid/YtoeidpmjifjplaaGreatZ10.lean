/- Texts put together. No statement is proved here. -/
import Derived.Test.YtoeidpmjifjplaaGreatZ9
set_option linter.all false
set_option maxRecDepth 10000
set_option maxHeartbeats 8000000
namespace Go.Proofs.YtoeidpmjifjplaaGreat
open Go.RowKit Tryz
section
attribute [local push_cast] Br Bl BV V.cells_mk V.cells_len Nat.mul_one Int.sub_zero List.map_nil beq_self_eq_true bne_self_eq_false List.head?_cons
namespace Rul
def idx {α σ:Type}(F:σ->α->Bool×σ):σ->List α->Nat->Int×σ
|s,[],_=>(-1,s)
|s,a::l,i=>if (F s a).1=true then((i:Int),(F s a).2)else idx F (F s a).2 l (i+1)
def anyS {α σ:Type}(F:σ->α->Bool×σ):σ->List α->Bool×σ
|s,[]=>(false,s)
|s,a::l=>if (F s a).1=true then(true,(F s a).2)else anyS F (F s a).2 l
theorem idx_any{α σ:Type}(F:σ->α->Bool×σ):∀(l:List α) (s:σ) (i:Nat),(idx F s l i).2=(anyS F s l).2/\decide ((idx F s l i).1≥0)=(anyS F s l).1
|[],s,i=>⟨rfl,rfl⟩
|a::l,s,i=>by
  rw[idx,anyS]
  split
  . exact⟨rfl,decide_eq_true (by show(i:Int)≥0;omega)⟩
  . exact idx_any F l _ _
theorem idx_drop{α σ:Type}(F:σ->α->Bool×σ){L:List α}{i:Nat}{a:α}(h:L[i]?=some a)(s:σ):idx F s (L.drop i) i=if (F s a).1=true then((i:Int),(F s a).2)else idx F (F s a).2 (L.drop (i+1)) (i+1):=by
 obtain⟨h1,rfl⟩:=Af.1 h
 rw[BM h1,idx]
theorem idx_le{α σ:Type}(F:σ->α->Bool×σ):∀(l:List α) (s:σ) (i:Nat), -1<=(idx F s l i).1/\(idx F s l i).1<=i+l.length
|[],s,i=>⟨TP _,by show(-1:Int)<=_;omega⟩
|a::l,s,i=>by
  rw[idx]
  split
  . dsimp only;rw[An];omega
  . have:=idx_le F l (F s a).2 (i+1)
    rw[An];omega
end Rul
theorem cP{σ:Type}(fn:FuncId)(caps:List D)(hcall:∀args w,(callFunc fn args).run prog w=.ok (.enter fn args) w)(L:List Ts)(hl:L.length<=1000000)(F:σ->Ts->Bool×σ)(S:σ->St)
 (hF:∀a∈L,∀s,TrF prog fn (.agg a.cells::caps) (S s) λd st'=>d=.b (F s a).1/\st'=S (F s a).2)(s0:σ):TrF prog 180 [.sl .shared (L.map Ts.cells),.fn (.func fn) [] caps] (S s0) λd st'=>d=.i (Rul.idx F s0 L 0).1/\st'=S (Rul.idx F s0 L 0).2:=by
 obtain⟨R,hR⟩:∃R,Rul.idx F s0 L 0=R:=⟨_,rfl⟩
 rw[hR]
 have HF:Hid (Rul.idx F s0 (L.drop 0) 0=R):=hR
 have hm:(L.map Ts.cells).length=L.length:=Ab ..
 have hc:=hMp Ts.cells L
 have hF2:=Aa hF
 clear hR hF
 generalize L.map Ts.cells=LS at *
 refine Qin [4] func180 results180 ntmps180 ?_
 repeat' (first|refine QX ?_|refine QB ?_;intro b|with_reducible refine QZ ?_<;>(try constructor)<;>intro hb<;>try intro hb1|fail)
 refine Bs (ι:=Nat) (λi A st'=>i<=L.length/\A.df=[]/\A.e 0=.sl .shared LS/\A.e 1=.fn (.func fn) [] caps/\A.e 7=.i L.length/\A.e 8=.i i/\∃s,Hid (Rul.idx F s (L.drop i) i=R)/\st'=S s) (λi=>L.length - i) 0 ⟨Ao _,Qf,Qf,Qf,Qf,Qf,s0,HF,rfl⟩ ?_
 clear HF
 rintro i A st' ⟨hi,hdf,e0,e1,e7,e8,s,HT,rfl⟩
 by_cases hlt:i<L.length
 . obtain⟨a,ha⟩:=gEx hlt
   have h1:=hc.out i a ha
   have hG:=hF2.out a (Ah ha) s
   have HE:=HT.out
   rw[Rul.idx_drop F ha]at HE
   clear HT ha hF2
   generalize F s a=q at *
   obtain⟨q,s'⟩:=q
   dsimp only at *
   cases a with
   | mk kind slot var val =>
   cases val with
   | mk k1 n1 s1 l1 =>
   rw[Ts.cells_mk]at h1 hG
   replace hG:=Aa hG
   cases q with
   | true =>
    rw[if_pos rfl]at HE
    subst HE
    repeat' (first|refine QX ?_|refine QB ?_;intro b|with_reducible refine QZ ?_<;>(try constructor)<;>intro hb<;>try intro hb1|refine Qc hcall hG.out ?_|fail)
    all_goals exact BZ
   | false =>
    rw[if_neg AJ]at HE
    replace HE:=Aa HE
    repeat' (first|refine QX ?_|refine QB ?_;intro b|with_reducible refine QZ ?_<;>(try constructor)<;>intro hb<;>try intro hb1|refine Qc hcall hG.out ?_|fail)
    refine⟨i+1,S s',q_u,⟨hlt,?_,?_,?_,?_,?_,s',HE,rfl⟩,by omega⟩
    all_goals exact Qf
 . have HE:=HT.out
   rw[Az q_o,Rul.idx]at HE
   subst HE
   clear HT hF2
   exact WR
theorem du{σ:Type}(fn:FuncId)(caps:List D)(hcall:∀args w,(callFunc fn args).run prog w=.ok (.enter fn args) w)(L:List Ts)(hl:L.length<=1000000)(F:σ->Ts->Bool×σ)(S:σ->St)
 (hF:∀a∈L,∀s,TrF prog fn (.agg a.cells::caps) (S s) λd st'=>d=.b (F s a).1/\st'=S (F s a).2)(s0:σ):TrF prog 150 [.sl .shared (L.map Ts.cells),.fn (.func fn) [] caps] (S s0) λd st'=>d=.b (Rul.anyS F s0 L).1/\st'=S (Rul.anyS F s0 L).2:=by
 have hI:=cP fn caps hcall L hl F S hF s0
 obtain⟨e1,e2⟩:=Rul.idx_any F L s0 0
 have hle:=Rul.idx_le F L s0 0
 rw[<-e1,<-e2]
 clear e1 e2 hF
 generalize Rul.idx F s0 L 0=R at *
 obtain⟨R,s'⟩:=R
 generalize L.map Ts.cells=LS at *
 dsimp only at *
 replace hI:=Aa hI
 by_cases hR:R≥0
 . rw[decide_eq_true hR]
   refine Qin [4] func150 results150 ntmps150 ?_
   repeat' (first|refine QX ?_|refine QB ?_;intro b|with_reducible refine QZ ?_<;>(try constructor)<;>intro hb<;>try intro hb1|refine Qc call180 hI.out ?_|fail)
   all_goals exact BZ
 . rw[decide_eq_false hR]
   refine Qin [4] func150 results150 ntmps150 ?_
   repeat' (first|refine QX ?_|refine QB ?_;intro b|with_reducible refine QZ ?_<;>(try constructor)<;>intro hb<;>try intro hb1|refine Qc call180 hI.out ?_|fail)
   all_goals exact BZ
theorem fY{σ:Type}(fn:FuncId)(caps:List D)(hcall:∀args w,(callFunc fn args).run prog w=.ok (.enter fn args) w)(L:List Pt)(hl:L.length<=1000000)(F:σ->Pt->Bool×σ)(S:σ->St)
 (hF:∀a∈L,∀s,TrF prog fn (.agg a.cells::caps) (S s) λd st'=>d=.b (F s a).1/\st'=S (F s a).2)(s0:σ):TrF prog 149 [.sl .shared (L.map Pt.cells),.fn (.func fn) [] caps] (S s0) λd st'=>d=.i (Rul.idx F s0 L 0).1/\st'=S (Rul.idx F s0 L 0).2:=by
 obtain⟨R,hR⟩:∃R,Rul.idx F s0 L 0=R:=⟨_,rfl⟩
 rw[hR]
 have HF:Hid (Rul.idx F s0 (L.drop 0) 0=R):=hR
 have hm:(L.map Pt.cells).length=L.length:=Ab ..
 have hc:=hMp Pt.cells L
 have hF2:=Aa hF
 clear hR hF
 generalize L.map Pt.cells=LS at *
 refine Qin [4] func149 results149 ntmps149 ?_
 repeat' (first|refine QX ?_|refine QB ?_;intro b|with_reducible refine QZ ?_<;>(try constructor)<;>intro hb<;>try intro hb1|fail)
 refine Bs (ι:=Nat) (λi A st'=>i<=L.length/\A.df=[]/\A.e 0=.sl .shared LS/\A.e 1=.fn (.func fn) [] caps/\A.e 7=.i L.length/\A.e 8=.i i/\∃s,Hid (Rul.idx F s (L.drop i) i=R)/\st'=S s) (λi=>L.length - i) 0 ⟨Ao _,Qf,Qf,Qf,Qf,Qf,s0,HF,rfl⟩ ?_
 clear HF
 rintro i A st' ⟨hi,hdf,e0,e1,e7,e8,s,HT,rfl⟩
 by_cases hlt:i<L.length
 . obtain⟨a,ha⟩:=gEx hlt
   have h1:=hc.out i a ha
   have hG:=hF2.out a (Ah ha) s
   have HE:=HT.out
   rw[Rul.idx_drop F ha]at HE
   clear HT ha hF2
   generalize F s a=q at *
   obtain⟨q,s'⟩:=q
   dsimp only at *
   unfold Pt.cells at h1 hG
   cases a with
   | mk tmpl neg tests =>
   dsimp only at h1 hG
   generalize tests.map Ts.cells=TS at *
   replace hG:=Aa hG
   cases q with
   | true =>
    rw[if_pos rfl]at HE
    subst HE
    repeat' (first|refine QX ?_|refine QB ?_;intro b|with_reducible refine QZ ?_<;>(try constructor)<;>intro hb<;>try intro hb1|refine Qc hcall hG.out ?_|fail)
    all_goals exact BZ
   | false =>
    rw[if_neg AJ]at HE
    replace HE:=Aa HE
    repeat' (first|refine QX ?_|refine QB ?_;intro b|with_reducible refine QZ ?_<;>(try constructor)<;>intro hb<;>try intro hb1|refine Qc hcall hG.out ?_|fail)
    refine⟨i+1,S s',q_u,⟨hlt,?_,?_,?_,?_,?_,s',HE,rfl⟩,by omega⟩
    all_goals exact Qf
 . have HE:=HT.out
   rw[Az q_o,Rul.idx]at HE
   subst HE
   clear HT hF2
   exact WR
theorem gq{σ:Type}(fn:FuncId)(caps:List D)(hcall:∀args w,(callFunc fn args).run prog w=.ok (.enter fn args) w)(L:List Pt)(hl:L.length<=1000000)(F:σ->Pt->Bool×σ)(S:σ->St)
 (hF:∀a∈L,∀s,TrF prog fn (.agg a.cells::caps) (S s) λd st'=>d=.b (F s a).1/\st'=S (F s a).2)(s0:σ):TrF prog 116 [.sl .shared (L.map Pt.cells),.fn (.func fn) [] caps] (S s0) λd st'=>d=.b (Rul.anyS F s0 L).1/\st'=S (Rul.anyS F s0 L).2:=by
 have hI:=fY fn caps hcall L hl F S hF s0
 obtain⟨e1,e2⟩:=Rul.idx_any F L s0 0
 have hle:=Rul.idx_le F L s0 0
 rw[<-e1,<-e2]
 clear e1 e2 hF
 generalize Rul.idx F s0 L 0=R at *
 obtain⟨R,s'⟩:=R
 generalize L.map Pt.cells=LS at *
 dsimp only at *
 replace hI:=Aa hI
 by_cases hR:R≥0
 . rw[decide_eq_true hR]
   refine Qin [4] func116 results116 ntmps116 ?_
   repeat' (first|refine QX ?_|refine QB ?_;intro b|with_reducible refine QZ ?_<;>(try constructor)<;>intro hb<;>try intro hb1|refine Qc call149 hI.out ?_|fail)
   all_goals exact BZ
 . rw[decide_eq_false hR]
   refine Qin [4] func116 results116 ntmps116 ?_
   repeat' (first|refine QX ?_|refine QB ?_;intro b|with_reducible refine QZ ?_<;>(try constructor)<;>intro hb<;>try intro hb1|refine Qc call149 hI.out ?_|fail)
   all_goals exact BZ
theorem fZ{σ:Type}(fn:FuncId)(caps:List D)(hcall:∀args w,(callFunc fn args).run prog w=.ok (.enter fn args) w)(L:List Ac)(hl:L.length<=1000000)(F:σ->Ac->Bool×σ)(S:σ->St)
 (hF:∀a∈L,∀s,TrF prog fn (.agg a.cells::caps) (S s) λd st'=>d=.b (F s a).1/\st'=S (F s a).2)(s0:σ):TrF prog 153 [.sl .shared (L.map Ac.cells),.fn (.func fn) [] caps] (S s0) λd st'=>d=.i (Rul.idx F s0 L 0).1/\st'=S (Rul.idx F s0 L 0).2:=by
 obtain⟨R,hR⟩:∃R,Rul.idx F s0 L 0=R:=⟨_,rfl⟩
 rw[hR]
 have HF:Hid (Rul.idx F s0 (L.drop 0) 0=R):=hR
 have hm:(L.map Ac.cells).length=L.length:=Ab ..
 have hc:=hMp Ac.cells L
 have hF2:=Aa hF
 clear hR hF
 generalize L.map Ac.cells=LS at *
 refine Qin [4] func153 results153 ntmps153 ?_
 repeat' (first|refine QX ?_|refine QB ?_;intro b|with_reducible refine QZ ?_<;>(try constructor)<;>intro hb<;>try intro hb1|fail)
 refine Bs (ι:=Nat) (λi A st'=>i<=L.length/\A.df=[]/\A.e 0=.sl .shared LS/\A.e 1=.fn (.func fn) [] caps/\A.e 7=.i L.length/\A.e 8=.i i/\∃s,Hid (Rul.idx F s (L.drop i) i=R)/\st'=S s) (λi=>L.length - i) 0 ⟨Ao _,Qf,Qf,Qf,Qf,Qf,s0,HF,rfl⟩ ?_
 clear HF
 rintro i A st' ⟨hi,hdf,e0,e1,e7,e8,s,HT,rfl⟩
 by_cases hlt:i<L.length
 . obtain⟨a,ha⟩:=gEx hlt
   have h1:=hc.out i a ha
   have hG:=hF2.out a (Ah ha) s
   have HE:=HT.out
   rw[Rul.idx_drop F ha]at HE
   clear HT ha hF2
   generalize F s a=q at *
   obtain⟨q,s'⟩:=q
   dsimp only at *
   unfold Ac.cells at h1 hG
   cases a with
   | mk kind pat tmpl slot vals =>
   dsimp only at h1 hG
   generalize vals.map Ex.cells=ES at *
   replace hG:=Aa hG
   cases q with
   | true =>
    rw[if_pos rfl]at HE
    subst HE
    repeat' (first|refine QX ?_|refine QB ?_;intro b|with_reducible refine QZ ?_<;>(try constructor)<;>intro hb<;>try intro hb1|refine Qc hcall hG.out ?_|fail)
    all_goals exact BZ
   | false =>
    rw[if_neg AJ]at HE
    replace HE:=Aa HE
    repeat' (first|refine QX ?_|refine QB ?_;intro b|with_reducible refine QZ ?_<;>(try constructor)<;>intro hb<;>try intro hb1|refine Qc hcall hG.out ?_|fail)
    refine⟨i+1,S s',q_u,⟨hlt,?_,?_,?_,?_,?_,s',HE,rfl⟩,by omega⟩
    all_goals exact Qf
 . have HE:=HT.out
   rw[Az q_o,Rul.idx]at HE
   subst HE
   clear HT hF2
   exact WR
theorem gr{σ:Type}(fn:FuncId)(caps:List D)(hcall:∀args w,(callFunc fn args).run prog w=.ok (.enter fn args) w)(L:List Ac)(hl:L.length<=1000000)(F:σ->Ac->Bool×σ)(S:σ->St)
 (hF:∀a∈L,∀s,TrF prog fn (.agg a.cells::caps) (S s) λd st'=>d=.b (F s a).1/\st'=S (F s a).2)(s0:σ):TrF prog 119 [.sl .shared (L.map Ac.cells),.fn (.func fn) [] caps] (S s0) λd st'=>d=.b (Rul.anyS F s0 L).1/\st'=S (Rul.anyS F s0 L).2:=by
 have hI:=fZ fn caps hcall L hl F S hF s0
 obtain⟨e1,e2⟩:=Rul.idx_any F L s0 0
 have hle:=Rul.idx_le F L s0 0
 rw[<-e1,<-e2]
 clear e1 e2 hF
 generalize Rul.idx F s0 L 0=R at *
 obtain⟨R,s'⟩:=R
 generalize L.map Ac.cells=LS at *
 dsimp only at *
 replace hI:=Aa hI
 by_cases hR:R≥0
 . rw[decide_eq_true hR]
   refine Qin [4] func119 results119 ntmps119 ?_
   repeat' (first|refine QX ?_|refine QB ?_;intro b|with_reducible refine QZ ?_<;>(try constructor)<;>intro hb<;>try intro hb1|refine Qc call153 hI.out ?_|fail)
   all_goals exact BZ
 . rw[decide_eq_false hR]
   refine Qin [4] func119 results119 ntmps119 ?_
   repeat' (first|refine QX ?_|refine QB ?_;intro b|with_reducible refine QZ ?_<;>(try constructor)<;>intro hb<;>try intro hb1|refine Qc call153 hI.out ?_|fail)
   all_goals exact BZ
theorem cQ{σ:Type}(fn:FuncId)(caps:List D)(hcall:∀args w,(callFunc fn args).run prog w=.ok (.enter fn args) w)(L:List Rl)(hl:L.length<=1000000)(F:σ->Rl->Bool×σ)(S:σ->St)
 (hF:∀a∈L,∀s,TrF prog fn (.agg a.cells::caps) (S s) λd st'=>d=.b (F s a).1/\st'=S (F s a).2)(s0:σ):TrF prog 122 [.sl .shared (L.map Rl.cells),.fn (.func fn) [] caps] (S s0) λd st'=>d=.i (Rul.idx F s0 L 0).1/\st'=S (Rul.idx F s0 L 0).2:=by
 obtain⟨R,hR⟩:∃R,Rul.idx F s0 L 0=R:=⟨_,rfl⟩
 rw[hR]
 have HF:Hid (Rul.idx F s0 (L.drop 0) 0=R):=hR
 have hm:(L.map Rl.cells).length=L.length:=Ab ..
 have hc:=hMp Rl.cells L
 have hF2:=Aa hF
 clear hR hF
 generalize L.map Rl.cells=LS at *
 refine Qin [4] func122 results122 ntmps122 ?_
 repeat' (first|refine QX ?_|refine QB ?_;intro b|with_reducible refine QZ ?_<;>(try constructor)<;>intro hb<;>try intro hb1|fail)
 refine Bs (ι:=Nat) (λi A st'=>i<=L.length/\A.df=[]/\A.e 0=.sl .shared LS/\A.e 1=.fn (.func fn) [] caps/\A.e 7=.i L.length/\A.e 8=.i i/\∃s,Hid (Rul.idx F s (L.drop i) i=R)/\st'=S s) (λi=>L.length - i) 0 ⟨Ao _,Qf,Qf,Qf,Qf,Qf,s0,HF,rfl⟩ ?_
 clear HF
 rintro i A st' ⟨hi,hdf,e0,e1,e7,e8,s,HT,rfl⟩
 by_cases hlt:i<L.length
 . obtain⟨a,ha⟩:=gEx hlt
   have h1:=hc.out i a ha
   have hG:=hF2.out a (Ah ha) s
   have HE:=HT.out
   rw[Rul.idx_drop F ha]at HE
   clear HT ha hF2
   generalize F s a=q at *
   obtain⟨q,s'⟩:=q
   dsimp only at *
   unfold Rl.cells at h1 hG
   cases a with
   | mk nm sal pats acts =>
   dsimp only at h1 hG
   generalize pats.map Pt.cells=PS at *
   generalize acts.map Ac.cells=AS at *
   replace hG:=Aa hG
   cases q with
   | true =>
    rw[if_pos rfl]at HE
    subst HE
    repeat' (first|refine QX ?_|refine QB ?_;intro b|with_reducible refine QZ ?_<;>(try constructor)<;>intro hb<;>try intro hb1|refine Qc hcall hG.out ?_|fail)
    all_goals exact BZ
   | false =>
    rw[if_neg AJ]at HE
    replace HE:=Aa HE
    repeat' (first|refine QX ?_|refine QB ?_;intro b|with_reducible refine QZ ?_<;>(try constructor)<;>intro hb<;>try intro hb1|refine Qc hcall hG.out ?_|fail)
    refine⟨i+1,S s',q_u,⟨hlt,?_,?_,?_,?_,?_,s',HE,rfl⟩,by omega⟩
    all_goals exact Qf
 . have HE:=HT.out
   rw[Az q_o,Rul.idx]at HE
   subst HE
   clear HT hF2
   exact WR
theorem dw{σ:Type}(fn:FuncId)(caps:List D)(hcall:∀args w,(callFunc fn args).run prog w=.ok (.enter fn args) w)(L:List Rl)(hl:L.length<=1000000)(F:σ->Rl->Bool×σ)(S:σ->St)
 (hF:∀a∈L,∀s,TrF prog fn (.agg a.cells::caps) (S s) λd st'=>d=.b (F s a).1/\st'=S (F s a).2)(s0:σ):TrF prog 79 [.sl .shared (L.map Rl.cells),.fn (.func fn) [] caps] (S s0) λd st'=>d=.b (Rul.anyS F s0 L).1/\st'=S (Rul.anyS F s0 L).2:=by
 have hI:=cQ fn caps hcall L hl F S hF s0
 obtain⟨e1,e2⟩:=Rul.idx_any F L s0 0
 have hle:=Rul.idx_le F L s0 0
 rw[<-e1,<-e2]
 clear e1 e2 hF
 generalize Rul.idx F s0 L 0=R at *
 obtain⟨R,s'⟩:=R
 generalize L.map Rl.cells=LS at *
 dsimp only at *
 replace hI:=Aa hI
 by_cases hR:R≥0
 . rw[decide_eq_true hR]
   refine Qin [4] func79 results79 ntmps79 ?_
   repeat' (first|refine QX ?_|refine QB ?_;intro b|with_reducible refine QZ ?_<;>(try constructor)<;>intro hb<;>try intro hb1|refine Qc call122 hI.out ?_|fail)
   all_goals exact BZ
 . rw[decide_eq_false hR]
   refine Qin [4] func79 results79 ntmps79 ?_
   repeat' (first|refine QX ?_|refine QB ?_;intro b|with_reducible refine QZ ?_<;>(try constructor)<;>intro hb<;>try intro hb1|refine Qc call122 hI.out ?_|fail)
   all_goals exact BZ
end
section
attribute [local push_cast] Br Bl BV V.cells_mk V.cells_len Nat.mul_one Int.sub_zero List.map_nil beq_self_eq_true List.head?_cons
def Sch.has (t k:Nat):Bool:=t / 2 ^ k % 2 == 1
structure VQ (v:V):Prop where
 ok:v.Ok
 nodes:v.nodes<=1000
 deep:v.deep<=1000
def ol (x:Vr)(st:St)(d:D)(st':St):Prop:=∃gs cS zS gc cC zC,VL cS zS cC zC x/\d=.agg [.ar gs 0 x.slots.length cS,.ar gc 0 x.cols.length cC]/\st'=.box gc 3 (DK x.cols++zC)::.box gs 184 (Db x.slots++zS)::st
def Sch.restV (s:Stp):Bool :=
 if s.kind=1 then decide (s.order.length=0) && (s.col == 0)
 else if s.kind=2 then bare s.slot false false && decide (s.order.length=0)
 else if s.kind=3 then bare s.slot true false && decide (s.order.length=0)
 else if s.kind=4 then bare s.slot false true && decide (s.order.length=0)
 else bare s.slot false false && (s.col == 0)
end
section
attribute [local push_cast] Br Bl BV V.cells_mk V.cells_len Nat.mul_one Int.sub_zero List.map_nil beq_self_eq_true bne_self_eq_false List.head?_cons
set_option maxHeartbeats 16000000
theorem zero_ok:V.zero.Ok:=.mk q_o q_o (Ao _) (Ao _) λx h=>by cases h
theorem OB:V.zero.cells=[.i 0,.i 0,.str ⟨#[]⟩,.sl .shared []]:=by unfold V.zero;rw[V.cells_mk];rfl
theorem YY(L:List Tm)(hL:∀t∈L,TOk t)(hl:L.length<=1000000)(nm:ByteArray)(sal:Int)(PS AS:List (List D))(r:Nat)(p:Pt)(t:Ts)(ht:VQ t.val)(B:List Int)(st:St):TrF prog 152 [.ip [.sl .shared (L.map Tm.cells),.str nm,.i sal,.sl .shared PS,.sl .shared AS,.mp r],.agg p.cells,.agg t.cells] (Fy r B::st) λd st'=>d=.b (Rul.testB (Rul.slots L p.tmpl).length p.neg B t)/\st'=Fy r (if Rul.testB (Rul.slots L p.tmpl).length p.neg B t=true then Rul.testN B t else B)::st:=by
 have hS:=JV L hL hl p.tmpl
 have hm:((Rul.slots L p.tmpl).map Sl.cells).length=(Rul.slots L p.tmpl).length:=Ab ..
 have hV:=Mn t.val V.zero ht.ok.bg zero_ok.bg
 have hR:=QI t.val (by have:=ht.nodes;omega)
 rw[OB]at hV
 generalize (Rul.slots L p.tmpl).map Sl.cells=SS at *
 generalize (Rul.slots L p.tmpl).length=ns at *
 generalize L.map Tm.cells=LS at *
 clear hL ht hl
 cases p with
|mk tmpl neg tests =>
 cases t with
|mk kind slot var val =>
 unfold Pt.cells
 dsimp only at *
 generalize tests.map Ts.cells=TS at *
 have eT:Rul.testB ns neg B ⟨kind,slot,var,val⟩=((decide (0<=slot) && decide (slot<ns)) && (if kind=1\/kind=2\/kind=3\/kind=4 then(var == 0) && val.right
  else if kind=5 then(val.cmp V.zero == 0) && ((decide (0<=var) && decide (var<8)) && (!neg && decide (var∉B)))
  else if kind=6\/kind=7\/kind=8\/kind=9 then(val.cmp V.zero == 0) && ((decide (0<=var) && decide (var<8)) && decide (var∈B))else false)):=rfl
 have eN:Rul.testN B ⟨kind,slot,var,val⟩=if kind=5 then B++[var]else B:=rfl
 rw[eT,eN]
 clear eT eN
 generalize (val.cmp V.zero == 0)=qv at *
 generalize val.right=qr at *
 have hnot:decide (var∉B)=!decide (var∈B):=by simp
 have hins:decide (var∈B)=false->Tq B var=B++[var]:=λh=>if_neg (of_decide_eq_false h)
 rw[hnot]
 clear hnot
 generalize hqb:decide (var∈B)=qb at *
 cases val with
|mk k1 n1 s1 l1 =>
 rw[Ts.cells_mk]
 rw[V.cells_mk]at hV hR
 generalize l1.map V.cells=VL at *
 replace hS:=Aa hS
 replace hV:=Aa hV
 replace hR:=Aa hR
 replace hins:=Aa hins
 by_cases hs0:slot<0
 . rw[decide_eq_false (show¬0<=slot by omega),Aw,Aw,if_neg AJ]
   refine Qin [6] func152 results152 ntmps152 ?_
   repeat' (first|refine QX ?_|refine QB ?_;intro b|with_reducible refine QZ ?_<;>(try constructor)<;>intro hb<;>try intro hb1|refine QL call126 (hV.out _) ?_|fail)
   all_goals exact BZ
 by_cases hs1:(ns:Int)<=slot
 . rw[decide_eq_false (show¬slot<ns by omega),CD,Aw,if_neg AJ]
   refine Qin [6] func152 results152 ntmps152 ?_
   repeat' (first|refine QX ?_|refine QB ?_;intro b|with_reducible refine QZ ?_<;>(try constructor)<;>intro hb<;>try intro hb1|refine QL call126 (hV.out _) ?_|fail)
   all_goals exact BZ
 rw[decide_eq_true (show 0<=slot by omega),decide_eq_true (show slot<ns by omega),AH,AH]
 by_cases k14:kind=1\/kind=2\/kind=3\/kind=4
 . rw[if_pos k14,if_neg (show¬kind=5 by omega),ite_self]
   by_cases hv:var=0
   . rw[beq_iff_eq.2 hv,AH]
     rcases k14 with rfl|rfl|rfl|rfl
     all_goals(
      refine Qin [6] func152 results152 ntmps152 ?_
      repeat' (first|refine QX ?_|refine QB ?_;intro b|with_reducible refine QZ ?_<;>(try constructor)<;>intro hb<;>try intro hb1|refine QL call126 (hV.out _) ?_|fail)
      all_goals exact BZ)
   . rw[beq_eq_false_iff_ne.2 hv,Aw]
     have hv2:(var == 0)=false:=beq_eq_false_iff_ne.2 hv
     rcases k14 with rfl|rfl|rfl|rfl
     all_goals(
      refine Qin [6] func152 results152 ntmps152 ?_
      repeat' (first|refine QX ?_|refine QB ?_;intro b|with_reducible refine QZ ?_<;>(try constructor)<;>intro hb<;>try intro hb1|refine QL call126 (hV.out _) ?_|fail)
      all_goals exact BZ)
 rw[if_neg k14]
 by_cases hk0:kind<1
 . rw[if_neg q_o,if_neg q_o,if_neg AJ]
   have b1:(kind == 1)=false:=beq_eq_false_iff_ne.2 q_o
   have b2:(kind == 2)=false:=beq_eq_false_iff_ne.2 q_o
   have b3:(kind == 3)=false:=beq_eq_false_iff_ne.2 q_o
   have b4:(kind == 4)=false:=beq_eq_false_iff_ne.2 q_o
   have b5:(kind == 5)=false:=beq_eq_false_iff_ne.2 q_o
   have b6:(kind == 6)=false:=beq_eq_false_iff_ne.2 q_o
   have b7:(kind == 7)=false:=beq_eq_false_iff_ne.2 q_o
   have b8:(kind == 8)=false:=beq_eq_false_iff_ne.2 q_o
   have b9:(kind == 9)=false:=beq_eq_false_iff_ne.2 q_o
   refine Qin [6] func152 results152 ntmps152 ?_
   repeat' (first|refine QX ?_|refine QB ?_;intro b|with_reducible refine QZ ?_<;>(try constructor)<;>intro hb<;>try intro hb1|refine QL call126 (hV.out _) ?_|fail)
   all_goals exact BZ
 have hbad:qv=false\/var<0\/8<=var\/(qv=true/\0<=var/\var<8):=by
  cases qv
  . exact .inl rfl
  . rcases nQ var 0 with h|h
    . exact .inr (.inl h)
    . rcases nQ var 8 with h'|h'
      . exact .inr (.inr (.inr ⟨rfl,h,h'⟩))
      . exact .inr (.inr (.inl h'))
 have hno:(qv=false\/var<0\/8<=var)->∀q:Bool,(qv && ((decide (0<=var) && decide (var<8)) && q))=false:=λh q=>by
  rcases h with h|h|h
  . rw[h];rfl
  . rw[decide_eq_false (show¬0<=var by omega)];simp
  . rw[decide_eq_false (show¬var<8 by omega)];simp
 rcases hbad with hb|hb|hb|⟨hq,hv0,hv8⟩
 . rw[hno (.inl hb),hno (.inl hb),ite_self,ite_self,if_neg AJ]
   clear hno
   try subst hb
   have g5:¬kind<5:=by omega
   refine Qin [6] func152 results152 ntmps152 ?_
   repeat' (first|refine QX ?_|refine QB ?_;intro b|with_reducible refine QZ ?_<;>(try constructor)<;>intro hb<;>try intro hb1|refine QL call126 (hV.out _) ?_|fail)
   all_goals exact BZ
 . rw[hno (.inr (.inl hb)),hno (.inr (.inl hb)),ite_self,ite_self,if_neg AJ]
   clear hno
   try subst hb
   have g5:¬kind<5:=by omega
   refine Qin [6] func152 results152 ntmps152 ?_
   repeat' (first|refine QX ?_|refine QB ?_;intro b|with_reducible refine QZ ?_<;>(try constructor)<;>intro hb<;>try intro hb1|refine QL call126 (hV.out _) ?_|fail)
   all_goals exact BZ
 . rw[hno (.inr (.inr hb)),hno (.inr (.inr hb)),ite_self,ite_self,if_neg AJ]
   clear hno
   try subst hb
   have g5:¬kind<5:=by omega
   refine Qin [6] func152 results152 ntmps152 ?_
   repeat' (first|refine QX ?_|refine QB ?_;intro b|with_reducible refine QZ ?_<;>(try constructor)<;>intro hb<;>try intro hb1|refine QL call126 (hV.out _) ?_|fail)
   all_goals exact BZ
 clear hno
 subst hq
 rw[decide_eq_true hv0,decide_eq_true hv8,AH,AH,AH,AH]
 by_cases k5:kind=5
 . subst k5
   rw[if_pos rfl,if_pos rfl]
   cases neg with
   | true =>
    rw[Fi,Aw,if_neg AJ]
    refine Qin [6] func152 results152 ntmps152 ?_
    repeat' (first|refine QX ?_|refine QB ?_;intro b|with_reducible refine QZ ?_<;>(try constructor)<;>intro hb<;>try intro hb1|refine QL call126 (hV.out _) ?_|fail)
    all_goals exact BZ
   | false =>
    rw[Hk,AH]
    cases qb with
    | true =>
     rw[Fi,if_neg AJ]
     refine Qin [6] func152 results152 ntmps152 ?_
     repeat' (first|refine QX ?_|refine QB ?_;intro b|with_reducible refine QZ ?_<;>(try constructor)<;>intro hb<;>try intro hb1|refine QL call126 (hV.out _) ?_|fail)
     all_goals exact BZ
    | false =>
     rw[Hk,if_pos rfl]
     have hi:=hins.out rfl
     have hmem:decide (var∈Tq B var)=true:=by rw[hi];simp
     rw[<-hi]
     clear hi hins
     refine Qin [6] func152 results152 ntmps152 ?_
     repeat' (first|refine QX ?_|refine QB ?_;intro b|with_reducible refine QZ ?_<;>(try constructor)<;>intro hb<;>try intro hb1|refine QL call126 (hV.out _) ?_|fail)
     all_goals exact BZ
 rw[if_neg k5,if_neg k5,ite_self]
 by_cases k69:kind=6\/kind=7\/kind=8\/kind=9
 . rw[if_pos k69]
   rcases k69 with rfl|rfl|rfl|rfl
   all_goals(
    refine Qin [6] func152 results152 ntmps152 ?_
    repeat' (first|refine QX ?_|refine QB ?_;intro b|with_reducible refine QZ ?_<;>(try constructor)<;>intro hb<;>try intro hb1|refine QL call126 (hV.out _) ?_|fail)
    all_goals exact BZ)
 rw[if_neg k69]
 have b5:(kind == 5)=false:=beq_eq_false_iff_ne.2 k5
 have b1:(kind == 1)=false:=beq_eq_false_iff_ne.2 q_o
 have b2:(kind == 2)=false:=beq_eq_false_iff_ne.2 q_o
 have b3:(kind == 3)=false:=beq_eq_false_iff_ne.2 q_o
 have b4:(kind == 4)=false:=beq_eq_false_iff_ne.2 q_o
 have b6:(kind == 6)=false:=beq_eq_false_iff_ne.2 q_o
 have b7:(kind == 7)=false:=beq_eq_false_iff_ne.2 q_o
 have b8:(kind == 8)=false:=beq_eq_false_iff_ne.2 q_o
 have b9:(kind == 9)=false:=beq_eq_false_iff_ne.2 q_o
 refine Qin [6] func152 results152 ntmps152 ?_
 repeat' (first|refine QX ?_|refine QB ?_;intro b|with_reducible refine QZ ?_<;>(try constructor)<;>intro hb<;>try intro hb1|refine QL call126 (hV.out _) ?_|fail)
 all_goals exact BZ
end
section
attribute [local push_cast] Br Bl BV V.cells_mk V.cells_len Nat.mul_one Int.sub_zero List.map_nil beq_self_eq_true bne_self_eq_false List.head?_cons
abbrev Jh (LS:List (List D))(nm:ByteArray)(sal:Int)(PS AS:List (List D))(r:Nat):List D:=[.sl .shared LS,.str nm,.i sal,.sl .shared PS,.sl .shared AS,.mp r]
namespace Rul
def testS (ns:Int)(neg:Bool)(B:List Int)(t:Ts):Bool×List Int:=(!testB ns neg B t,if testB ns neg B t=true then testN B t else B)
theorem anyS_tests(ns:Int)(neg:Bool):∀(l:List Ts) (B:List Int),anyS (testS ns neg) B l=(!(testsF ns neg l B).1,(testsF ns neg l B).2)
|[],B=>rfl
|t::l,B=>by
  rw[anyS,testsF]
  unfold testS
  cases h:testB ns neg B t with
  | true =>
   dsimp only
   rw[if_neg (by decide),if_pos rfl,if_pos rfl]
   exact anyS_tests ns neg l _
  | false=>rfl
def patS (L:List Tm)(B:List Int)(p:Pt):Bool×List Int:=(!(patF L B p).1,(patF L B p).2)
theorem anyS_pats(L:List Tm):∀(l:List Pt) (B:List Int),anyS (patS L) B l=(!(patsF L l B).1,(patsF L l B).2)
|[],B=>rfl
|p::l,B=>by
  rw[anyS,patsF]
  unfold patS
  cases h:(patF L B p).1 with
  | true =>
   dsimp only
   rw[if_neg (by decide),if_pos rfl]
   exact anyS_pats L l _
  | false=>rfl
end Rul
theorem YZ(L:List Tm)(hL:∀t∈L,TOk t)(hl:L.length<=1000000)(nm:ByteArray)(sal:Int)(PS AS:List (List D))(r:Nat)(p:Pt)(t:Ts)(ht:VQ t.val)(B:List Int)(st:St):TrF prog 151 [.agg t.cells,.ip [.ip (Jh (L.map Tm.cells) nm sal PS AS r)],.ip p.cells] (Fy r B::st) λd st'=>d=.b (Rul.testS (Rul.slots L p.tmpl).length p.neg B t).1/\st'=Fy r (Rul.testS (Rul.slots L p.tmpl).length p.neg B t).2::st:=by
 have hT:=YY L hL hl nm sal PS AS r p t ht B st
 unfold Rul.testS
 dsimp only
 generalize (if Rul.testB _ _ _ _=true then Rul.testN B t else B)=B2 at *
 generalize Rul.testB _ _ _ _=q at *
 generalize L.map Tm.cells=LS at *
 cases p with
|mk tmpl neg tests =>
 cases t with
|mk kind slot var val =>
 cases val with
|mk k1 n1 s1 l1 =>
 unfold Pt.cells at *
 rw[Ts.cells_mk]at *
 dsimp only at *
 generalize tests.map Ts.cells=TS at *
 replace hT:=Aa hT
 refine Qin [4] func151 results151 ntmps151 ?_
 repeat' (first|refine QX ?_|refine QB ?_;intro b|with_reducible refine QZ ?_<;>(try constructor)<;>intro hb<;>try intro hb1|refine Qc call152 hT.out ?_|fail)
 all_goals exact BZ
theorem bD(L:List Tm)(hL:∀t∈L,TOk t)(hl:L.length<=1000000)(nm:ByteArray)(sal:Int)(PS AS:List (List D))(r:Nat)(p:Pt)(ht:∀t∈p.tests,VQ t.val)(htl:p.tests.length<=1000000)(B:List Int)(st:St):TrF prog 118 [.ip (Jh (L.map Tm.cells) nm sal PS AS r),.agg p.cells] (Fy r B::st) λd st'=>d=.b (Rul.patF L B p).1/\st'=Fy r (Rul.patF L B p).2::st:=by
 have hC:=du 151 [.ip [.ip (Jh (L.map Tm.cells) nm sal PS AS r)],.ip p.cells] call151 p.tests htl (Rul.testS (Rul.slots L p.tmpl).length p.neg) (λB=>Fy r B::st) (λt h B=>YZ L hL hl nm sal PS AS r p t (ht t h) B st) B
 rw[Rul.anyS_tests]at hC
 unfold Rul.patF
 have hm:(L.map Tm.cells).length=L.length:=Ab ..
 have hm2:(p.tests.map Ts.cells).length=p.tests.length:=Ab ..
 dsimp only at hC
 generalize Rul.testsF _ _ _ _=q at *
 obtain⟨q,B2⟩:=q
 dsimp only at *
 generalize L.map Tm.cells=LS at *
 clear ht hL
 cases p with
|mk tmpl neg tests =>
 unfold Pt.cells at *
 dsimp only at *
 generalize tests.map Ts.cells=TS at *
 replace hC:=Aa hC
 by_cases h1:tmpl<0
 . rw[if_neg q_o]
   refine Qin [4] func118 results118 ntmps118 ?_
   exact WR
 by_cases h2:(L.length:Int)<=tmpl
 . rw[if_neg q_o]
   refine Qin [4] func118 results118 ntmps118 ?_
   exact WR
 by_cases h3:6<(tests.length:Int)
 . rw[if_neg q_o]
   refine Qin [4] func118 results118 ntmps118 ?_
   exact WR
 rw[if_pos q_o]
 cases q
 all_goals(
  refine Qin [4] func118 results118 ntmps118 ?_
  repeat' (first|refine QX ?_|refine QB ?_;intro b|with_reducible refine QZ ?_<;>(try constructor)<;>intro hb<;>try intro hb1|refine Qc call150 hC.out ?_|fail)
  all_goals exact BZ)
theorem Zb(L:List Tm)(hL:∀t∈L,TOk t)(hl:L.length<=1000000)(nm:ByteArray)(sal:Int)(PS AS:List (List D))(r b:Nat)(p:Pt)(ht:∀t∈p.tests,VQ t.val)(htl:p.tests.length<=1000000)(B:List Int)(st:St):TrF prog 117 [.agg p.cells,.ptr b 0] (.box b 189 [.ip (Jh (L.map Tm.cells) nm sal PS AS r)]::Fy r B::st) λd st'=>d=.b (Rul.patS L B p).1/\st'=.box b 189 [.ip (Jh (L.map Tm.cells) nm sal PS AS r)]::Fy r (Rul.patS L B p).2::st:=by
 have hP:=bD L hL hl nm sal PS AS r p ht htl B
 unfold Rul.patS
 generalize Rul.patF L B p=q at *
 obtain⟨q,B2⟩:=q
 dsimp only at *
 generalize L.map Tm.cells=LS at *
 clear ht hL htl
 cases p with
|mk tmpl neg tests =>
 unfold Pt.cells at *
 dsimp only at *
 generalize tests.map Ts.cells=TS at *
 replace hP:=Aa hP
 cases q
 all_goals(
  refine Qin [3] func117 results117 ntmps117 ?_
  exact WR)
theorem Rf(LS:List (List D))(nm:ByteArray)(sal:Int)(PS AS:List (List D))(r:Nat)(e:Ex)(s:Sl)(he:VQ e.val)(B:List Int)(st:St):TrF prog 154 [.ip (Jh LS nm sal PS AS r),.agg e.cells,.agg s.cells] (Fy r B::st) λd st'=>d=.b (Rul.exprB B e s)/\st'=Fy r B::st:=by
 have hV:=Mn e.val V.zero he.ok.bg zero_ok.bg
 have hF:=Uh s.name s.types s.req s.dv e.val (by have:=he.nodes;omega)
 rw[OB]at hV
 cases e with
|mk iv var val =>
 cases s with
|mk sn sty srq sdv =>
 unfold Rul.exprB
 dsimp only at *
 generalize (val.cmp V.zero == 0)=qv at *
 generalize Sch.fits _ val=qf at *
 generalize hqb:decide (var∈B)=qb at *
 clear he
 cases val with
|mk k1 n1 s1 l1 =>
 cases sdv with
|mk k2 n2 s2 l2 =>
 rw[Ex.cells_mk]
 rw[Sl.cells_mk]at *
 rw[V.cells_mk]at hV hF
 generalize l1.map V.cells=VL at *
 generalize l2.map V.cells=VL2 at *
 replace hV:=Aa hV
 replace hF:=Aa hF
 cases iv with
|true =>
  rw[if_pos rfl]
  cases qb
  all_goals(
   refine Qin [6] func154 results154 ntmps154 ?_
   repeat' (first|refine QX ?_|refine QB ?_;intro b|with_reducible refine QZ ?_<;>(try constructor)<;>intro hb<;>try intro hb1|refine QL call126 (hV.out _) ?_|fail)
   all_goals exact BZ)
|false =>
  rw[if_neg AJ]
  by_cases hv:var=0
  . rw[beq_iff_eq.2 hv,AH]
    refine Qin [6] func154 results154 ntmps154 ?_
    exact WR
  . have hv2:(var == 0)=false:=beq_eq_false_iff_ne.2 hv
    rw[hv2,Aw]
    refine Qin [6] func154 results154 ntmps154 ?_
    exact WR
theorem bC(LS:List (List D))(nm:ByteArray)(sal:Int)(ps:List Pt)(AS:List (List D))(r:Nat)(k:Int)(st:St):TrF prog 155 [.ip (Jh LS nm sal (ps.map Pt.cells) AS r),.i k] st λd st'=>d=.b (Rul.posB ps k)/\st'=st:=by
 have hm:(ps.map Pt.cells).length=ps.length:=Ab ..
 unfold Rul.posB
 by_cases h0:k<0
 . rw[decide_eq_false (show¬0<=k by omega),Aw,Aw]
   generalize ps.map Pt.cells=PS at *
   refine Qin [4] func155 results155 ntmps155 ?_
   exact WR
 by_cases h1:(ps.length:Int)<=k
 . rw[decide_eq_false (show¬k<ps.length by omega),CD,Aw]
   generalize ps.map Pt.cells=PS at *
   refine Qin [4] func155 results155 ntmps155 ?_
   exact WR
 rw[decide_eq_true (show 0<=k by omega),decide_eq_true (show k<ps.length by omega),AH,AH]
 obtain⟨n,rfl⟩:∃n:Nat,(n:Int)=k:=⟨k.toNat,Ih q_o⟩
 obtain⟨p,hp⟩:=gEx (l:=ps) (i:=n) q_o
 have hc:(ps.map Pt.cells)[n]?=some p.cells:=by rw[Aq,hp];rfl
 rw[BR,hp,gX]
 clear hp
 generalize ps.map Pt.cells=PS at *
 cases p with
|mk tmpl neg tests =>
 unfold Pt.cells at *
 dsimp only at *
 generalize tests.map Ts.cells=TS at *
 refine Qin [4] func155 results155 ntmps155 ?_
 exact WR
end
section
attribute [local push_cast] Br Bl BV V.cells_mk V.cells_len Nat.mul_one Int.sub_zero List.map_nil beq_self_eq_true bne_self_eq_false List.head?_cons
set_option maxHeartbeats 16000000
namespace Rul
theorem exprsB_drop{B:List Int}{l:List Ex}{m:List Sl}{i:Nat}{e:Ex}{s:Sl}(h1:l[i]?=some e)(h2:m[i]?=some s):exprsB B (l.drop i) (m.drop i)=(exprB B e s && exprsB B (l.drop (i+1)) (m.drop (i+1))):=by
 obtain⟨k1,rfl⟩:=Af.1 h1
 obtain⟨k2,rfl⟩:=Af.1 h2
 rw[BM k1,BM k2,exprsB]
end Rul
theorem SY(L:List Tm)(hL:∀t∈L,TOk t)(hl:L.length<=1000000)(nm:ByteArray)(sal:Int)(ps:List Pt)(AS:List (List D))(r:Nat)(pat tmpl slot:Int)(vals:List Ex)(ha:∀e∈vals,VQ e.val)(hvl:vals.length<=1000000)(B:List Int)(st:St):TrF prog 121 [.ip (Jh (L.map Tm.cells) nm sal (ps.map Pt.cells) AS r),.agg (Ac.mk 1 pat tmpl slot vals).cells] (Fy r B::st) λd st'=>d=.b (Rul.actB L ps B ⟨1,pat,tmpl,slot,vals⟩)/\st'=Fy r B::st:=by
 have hS:=JV L hL hl tmpl
 have e0:Rul.actB L ps B ⟨1,pat,tmpl,slot,vals⟩=(((pat == 0) && (slot == 0)) && ((decide ((Rul.slots L tmpl).length≠0) && decide (vals.length=(Rul.slots L tmpl).length)) && Rul.exprsB B vals (Rul.slots L tmpl))):=rfl
 rw[e0]
 clear e0 hL hl
 generalize Rul.slots L tmpl=SL at *
 generalize L.map Tm.cells=LS at *
 generalize ps.map Pt.cells=PS at *
 unfold Ac.cells
 dsimp only
 have hm1:(vals.map Ex.cells).length=vals.length:=Ab ..
 have hm2:(SL.map Sl.cells).length=SL.length:=Ab ..
 have hc1:=hMp Ex.cells vals
 have hc2:=hMp Sl.cells SL
 have hE:=Aa λ(e:Ex) (he:e∈vals) (s:Sl)=>Rf LS nm sal PS AS r e s (ha e he) B
 clear ha
 generalize vals.map Ex.cells=ES at *
 generalize SL.map Sl.cells=SS at *
 replace hS:=Aa hS
 by_cases h1:pat=0
 rotate_left
 . have b1:(pat == 0)=false:=beq_eq_false_iff_ne.2 h1
   rw[b1,Aw,Aw]
   refine Qin [4] func121 results121 ntmps121 ?_
   exact WR
 subst h1
 by_cases h2:slot=0
 rotate_left
 . have b2:(slot == 0)=false:=beq_eq_false_iff_ne.2 h2
   rw[b2,CD,Aw]
   refine Qin [4] func121 results121 ntmps121 ?_
   exact WR
 subst h2
 rw[beq_self_eq_true,AH,AH]
 by_cases h3:SL.length=0
 . rw[decide_eq_false (λh=>h h3),Aw,Aw]
   refine Qin [4] func121 results121 ntmps121 ?_
   exact WR
 by_cases h4:vals.length=SL.length
 rotate_left
 . rw[decide_eq_false h4,CD,Aw]
   have h5:¬(vals.length:Int)=(SL.length:Int):=by omega
   refine Qin [4] func121 results121 ntmps121 ?_
   exact WR
 rw[decide_eq_true h3,decide_eq_true h4,AH,AH]
 obtain⟨Q,hQ⟩:∃Q,Rul.exprsB B vals SL=Q:=⟨_,rfl⟩
 rw[hQ]
 have HQ:Hid (Rul.exprsB B (vals.drop 0) (SL.drop 0)=Q):=hQ
 clear hQ
 have h5:(vals.length:Int)=(SL.length:Int):=by omega
 have h6:¬(SL.length:Int)=0:=by omega
 refine Qin [4] func121 results121 ntmps121 ?_
 repeat' (first|refine QX ?_|refine QB ?_;intro b|with_reducible refine QZ ?_<;>(try constructor)<;>intro hb<;>try intro hb1|fail)
 clear hS
 refine Bs (ι:=Nat) (λi A st'=>i<=vals.length/\Hid (Rul.exprsB B (vals.drop i) (SL.drop i)=Q)/\A.df=[]/\A.e 0=.ip (Jh LS nm sal PS AS r)/\A.e 5=.sl .shared SS/\A.e 42=.sl .shared ES/\A.e 43=.i vals.length/\A.e 44=.i i/\st'=Fy r B::st) (λi=>vals.length - i) 0 ⟨Ao _,HQ,Qf,Qf,Qf,Qf,Qf,Qf,rfl⟩ ?_
 clear HQ
 rintro i A st' ⟨hi,HT,hdf,e0,e5,e42,e43,e44,rfl⟩
 by_cases hlt:i<vals.length
 . obtain⟨e,he⟩:=gEx hlt
   obtain⟨s,hs⟩:=gEx (l:=SL) (i:=i) q_o
   have g1:=hc1.out i e he
   have g2:=hc2.out i s hs
   have hF:=hE.out e (Ah he) s
   have HE:=HT.out
   rw[Rul.exprsB_drop he hs]at HE
   clear HT he hs hE hc1 hc2
   obtain⟨G,hGG⟩:∃G,Rul.exprsB B (vals.drop (i+1)) (SL.drop (i+1))=G:=⟨_,rfl⟩
   rw[hGG]at HE
   replace hGG:=Aa hGG
   generalize Rul.exprB B e s=q at *
   cases e with
   | mk iv var val =>
   cases s with
   | mk an at_ ar av =>
   cases val with
   | mk k1 n1 s1 l1 =>
   cases av with
   | mk k2 n2 s2 l2 =>
   rw[Ex.cells_mk]at g1 hF
   rw[Sl.cells_mk]at g2 hF
   replace hF:=Aa hF
   have hi5:i<SL.length:=by omega
   cases q with
   | true =>
    rw[AH]at HE
    replace HE:=Aa (hGG.out.trans HE)
    clear hGG
    repeat' (first|refine QV ?_|((with_reducible refine QW ?_);intro hne;simp only[nes,ne1,and_assoc]at hne;repeat(have hq:=hne.1;replace hne:=hne.2))|refine QY ?_|refine QB ?_;intro b|with_reducible refine QZ ?_<;>(try constructor)<;>intro hb<;>try intro hb1|fail)
    refine⟨i+1,Fy r B::st,q_u,⟨hlt,HE,?_,?_,?_,?_,?_,?_,rfl⟩,by omega⟩
    all_goals exact Qf
   | false =>
    rw[Aw]at HE
    subst HE
    clear hGG
    repeat' (first|refine QV ?_|((with_reducible refine QW ?_);intro hne;simp only[nes,ne1,and_assoc]at hne;repeat(have hq:=hne.1;replace hne:=hne.2))|refine QY ?_|refine QB ?_;intro b|with_reducible refine QZ ?_<;>(try constructor)<;>intro hb<;>try intro hb1|fail)
    all_goals exact BZ
 . have HE:=HT.out
   rw[Az q_o,Rul.exprsB]at HE
   . subst HE
     clear HT
     exact WR
   . intro _ _ _ _ h;cases h
theorem bF(L:List Tm)(hL:∀t∈L,TOk t)(hl:L.length<=1000000)(nm:ByteArray)(sal:Int)(ps:List Pt)(AS:List (List D))(r:Nat)(a:Ac)(ha:∀e∈a.vals,VQ e.val)(hvl:a.vals.length<=1000000)(B:List Int)(st:St):TrF prog 121 [.ip (Jh (L.map Tm.cells) nm sal (ps.map Pt.cells) AS r),.agg a.cells] (Fy r B::st) λd st'=>d=.b (Rul.actB L ps B a)/\st'=Fy r B::st:=by
 cases a with
|mk kind pat tmpl slot vals =>
 by_cases k1:kind=1
 . subst k1
   exact SY L hL hl nm sal ps AS r pat tmpl slot vals ha hvl B st
 have hP:=bC (L.map Tm.cells) nm sal ps AS r pat
 have hm1:(vals.map Ex.cells).length=vals.length:=Ab ..
 have b1:(kind == 1)=false:=beq_eq_false_iff_ne.2 k1
 by_cases k2:kind=2
 . subst k2
   have e0:Rul.actB L ps B ⟨2,pat,tmpl,slot,vals⟩=(Rul.posB ps pat && ((tmpl == 0) && ((slot == 0) && decide (vals.length=0)))):=rfl
   rw[e0]
   unfold Ac.cells
   dsimp only
   generalize Rul.posB ps pat=q at *
   generalize L.map Tm.cells=LS at *
   generalize ps.map Pt.cells=PS at *
   generalize vals.map Ex.cells=ES at *
   replace hP:=Aa hP
   cases q with
   | false =>
    rw[Aw]
    refine Qin [4] func121 results121 ntmps121 ?_
    exact WR
   | true =>
   rw[AH]
   by_cases h1:tmpl=0
   rotate_left
   . have b1:(tmpl == 0)=false:=beq_eq_false_iff_ne.2 h1
     rw[b1,Aw]
     refine Qin [4] func121 results121 ntmps121 ?_
     exact WR
   subst h1
   by_cases h2:slot=0
   rotate_left
   . have b2:(slot == 0)=false:=beq_eq_false_iff_ne.2 h2
     rw[b2,Aw,CD]
     refine Qin [4] func121 results121 ntmps121 ?_
     exact WR
   subst h2
   rw[beq_self_eq_true,AH,AH]
   by_cases h3:vals.length=0
   . rw[decide_eq_true h3]
     have h4:(vals.length:Int)=0:=by omega
     refine Qin [4] func121 results121 ntmps121 ?_
     exact WR
   . rw[decide_eq_false h3]
     have h4:¬(vals.length:Int)=0:=by omega
     have h5:((vals.length:Int) == 0)=false:=beq_eq_false_iff_ne.2 h4
     refine Qin [4] func121 results121 ntmps121 ?_
     exact WR
 have b2:(kind == 2)=false:=beq_eq_false_iff_ne.2 k2
 by_cases k3:kind=3
 . subst k3
   have e0:Rul.actB L ps B ⟨3,pat,tmpl,slot,vals⟩=((Rul.posB ps pat && ((tmpl == 0) && decide (vals.length=1))) && (match (generalizing:=false) ps[pat.toNat]?,vals with
    | some p,[e]=>decide (0<=slot) && (decide (slot<(Rul.slots L p.tmpl).length) && (match (Rul.slots L p.tmpl)[slot.toNat]? with|some s=>Rul.exprB B e s|none=>false))
    | _,_=>false)):=rfl
   rw[e0]
   clear e0
   cases hq:Rul.posB ps pat with
   | false =>
    rw[hq]at hP
    rw[Aw,Aw]
    unfold Ac.cells
    dsimp only
    generalize L.map Tm.cells=LS at *
    generalize ps.map Pt.cells=PS at *
    generalize vals.map Ex.cells=ES at *
    replace hP:=Aa hP
    refine Qin [4] func121 results121 ntmps121 ?_
    exact WR
   | true =>
   rw[hq]at hP
   rw[AH]
   by_cases h1:tmpl=0
   rotate_left
   . have b1:(tmpl == 0)=false:=beq_eq_false_iff_ne.2 h1
     rw[b1,Aw,Aw]
     unfold Ac.cells
     dsimp only
     generalize L.map Tm.cells=LS at *
     generalize ps.map Pt.cells=PS at *
     generalize vals.map Ex.cells=ES at *
     replace hP:=Aa hP
     refine Qin [4] func121 results121 ntmps121 ?_
     exact WR
   subst h1
   rw[beq_self_eq_true,AH]
   by_cases h2:vals.length=1
   rotate_left
   . rw[decide_eq_false h2,Aw]
     have h3:¬(vals.length:Int)=1:=by omega
     unfold Ac.cells
     dsimp only
     generalize L.map Tm.cells=LS at *
     generalize ps.map Pt.cells=PS at *
     generalize vals.map Ex.cells=ES at *
     replace hP:=Aa hP
     refine Qin [4] func121 results121 ntmps121 ?_
     exact WR
   rw[decide_eq_true h2,AH]
   obtain⟨e,rfl⟩:∃e,vals=[e]:=List.length_eq_one_iff.1 h2
   unfold Rul.posB at hq
   rw[AF,AF,decide_eq_true_eq,decide_eq_true_eq]at hq
   obtain⟨⟨hp0,hp1⟩, -⟩:=hq
   obtain⟨n,rfl⟩:∃n:Nat,(n:Int)=pat:=⟨pat.toNat,Ih hp0⟩
   obtain⟨p,hp⟩:=gEx (l:=ps) (i:=n) q_o
   have hpc:(ps.map Pt.cells)[n]?=some p.cells:=by rw[Aq,hp];rfl
   have hpl:(ps.map Pt.cells).length=ps.length:=Ab ..
   rw[BR,hp]
   dsimp only
   have hS:=JV L hL hl p.tmpl
   have hE:=λs=>Rf (L.map Tm.cells) nm sal (ps.map Pt.cells) AS r e s (ha e (AB.2 rfl)) B
   have hm2:((Rul.slots L p.tmpl).map Sl.cells).length=(Rul.slots L p.tmpl).length:=Ab ..
   have hc2:∀(i:Nat) (v:Sl),(Rul.slots L p.tmpl)[i]?=some v->((Rul.slots L p.tmpl).map Sl.cells)[i]?=some v.cells:=λi v h=>by rw[Aq,h];rfl
   generalize Rul.slots L p.tmpl=SL at *
   clear hp ha hL hl hvl h2 hm1
   generalize L.map Tm.cells=LS at *
   generalize ps.map Pt.cells=PS at *
   generalize SL.map Sl.cells=SS at *
   unfold Ac.cells Pt.cells at *
   dsimp only at *
   rw[Au,BH]
   cases p with
   | mk ptm pneg pts =>
   dsimp only at *
   generalize pts.map Ts.cells=TS at *
   replace hP:=Aa hP
   replace hS:=Aa hS
   cases e with
   | mk iv var val =>
   cases val with
   | mk ek en es el =>
   rw[Ex.cells_mk]at *
   by_cases s0:slot<0
   . rw[decide_eq_false (show¬0<=slot by omega),Aw]
     clear hE hc2
     refine Qin [4] func121 results121 ntmps121 ?_
     repeat' (first|refine QV ?_|((with_reducible refine QW ?_);intro hne;simp only[nes,ne1,and_assoc]at hne;repeat(have hq:=hne.1;replace hne:=hne.2))|refine QY ?_|refine QB ?_;intro b|with_reducible refine QZ ?_<;>(try constructor)<;>intro hb<;>try intro hb1|fail)
     all_goals exact BZ
   by_cases s1:(SL.length:Int)<=slot
   . rw[decide_eq_false (show¬slot<SL.length by omega),Aw,CD]
     clear hE hc2
     refine Qin [4] func121 results121 ntmps121 ?_
     repeat' (first|refine QV ?_|((with_reducible refine QW ?_);intro hne;simp only[nes,ne1,and_assoc]at hne;repeat(have hq:=hne.1;replace hne:=hne.2))|refine QY ?_|refine QB ?_;intro b|with_reducible refine QZ ?_<;>(try constructor)<;>intro hb<;>try intro hb1|fail)
     all_goals exact BZ
   rw[decide_eq_true (show 0<=slot by omega),decide_eq_true (show slot<SL.length by omega),AH,AH]
   obtain⟨m,rfl⟩:∃m:Nat,(m:Int)=slot:=⟨slot.toNat,Ih q_o⟩
   obtain⟨s,hs⟩:=gEx (l:=SL) (i:=m) q_o
   have hsc:=hc2 m s hs
   have hF:=hE s
   rw[BR,hs]
   dsimp only
   clear hE hc2 hs
   generalize Rul.exprB B _ s=q at *
   cases s with
   | mk an at_ ar av =>
   cases av with
   | mk k2 n2 s2 l2 =>
   rw[Sl.cells_mk]at hsc hF
   replace hF:=Aa hF
   have hm3:m<SL.length:=by omega
   have hn3:n<ps.length:=by omega
   refine Qin [4] func121 results121 ntmps121 ?_
   repeat' (first|refine QV ?_|((with_reducible refine QW ?_);intro hne;simp only[nes,ne1,and_assoc]at hne;repeat(have hq:=hne.1;replace hne:=hne.2))|refine QY ?_|refine QB ?_;intro b|with_reducible refine QZ ?_<;>(try constructor)<;>intro hb<;>try intro hb1|fail)
   all_goals exact BZ
 have b3:(kind == 3)=false:=beq_eq_false_iff_ne.2 k3
 have e0:Rul.actB L ps B ⟨kind,pat,tmpl,slot,vals⟩=((kind == 4) && ((pat == 0) && ((tmpl == 0) && ((slot == 0) && decide (vals.length=0))))):=by
  unfold Rul.actB
  rw[if_neg k1,if_neg k2,if_neg k3]
 rw[e0]
 unfold Ac.cells
 dsimp only
 clear e0 hP ha
 generalize L.map Tm.cells=LS at *
 generalize ps.map Pt.cells=PS at *
 generalize vals.map Ex.cells=ES at *
 by_cases h0:kind=4
 rotate_left
 . have c1:(kind == 4)=false:=beq_eq_false_iff_ne.2 h0
   rw[c1,Aw]
   refine Qin [4] func121 results121 ntmps121 ?_
   exact WR
 subst h0
 rw[beq_self_eq_true,AH]
 by_cases h1:pat=0
 rotate_left
 . have c1:(pat == 0)=false:=beq_eq_false_iff_ne.2 h1
   rw[c1,Aw]
   refine Qin [4] func121 results121 ntmps121 ?_
   exact WR
 subst h1
 rw[beq_self_eq_true,AH]
 by_cases h2:tmpl=0
 rotate_left
 . have c1:(tmpl == 0)=false:=beq_eq_false_iff_ne.2 h2
   rw[c1,Aw]
   refine Qin [4] func121 results121 ntmps121 ?_
   exact WR
 subst h2
 rw[beq_self_eq_true,AH]
 by_cases h3:slot=0
 rotate_left
 . have c1:(slot == 0)=false:=beq_eq_false_iff_ne.2 h3
   rw[c1,Aw]
   refine Qin [4] func121 results121 ntmps121 ?_
   exact WR
 subst h3
 rw[beq_self_eq_true,AH]
 by_cases h3:vals.length=0
 . rw[decide_eq_true h3]
   have h4:(vals.length:Int)=0:=by omega
   refine Qin [4] func121 results121 ntmps121 ?_
   exact WR
 . rw[decide_eq_false h3]
   have h4:¬(vals.length:Int)=0:=by omega
   have h5:((vals.length:Int) == 0)=false:=beq_eq_false_iff_ne.2 h4
   refine Qin [4] func121 results121 ntmps121 ?_
   exact WR
namespace Rul
def actS (L:List Tm)(ps:List Pt)(B:List Int)(a:Ac):Bool×List Int:=(!actB L ps B a,B)
theorem anyS_acts(L:List Tm)(ps:List Pt)(B:List Int):∀l:List Ac,anyS (actS L ps) B l=(!(l.all λa=>actB L ps B a),B)
|[]=>rfl
|a::l=>by
  rw[anyS,Kq]
  unfold actS
  cases h:actB L ps B a with
  | true =>
   dsimp only
   rw[if_neg (by decide),AH]
   exact anyS_acts L ps B l
  | false=>rfl
structure RK (x:Rl):Prop where
 nm:x.name.size<=900000
 np:x.pats.length<=100
 na:x.acts.length<=100
 nt:∀p∈x.pats,p.tests.length<=100
 nv:∀a∈x.acts,a.vals.length<=100
 vt:∀p∈x.pats,∀t∈p.tests,VQ t.val
 va:∀a∈x.acts,∀e∈a.vals,VQ e.val
end Rul
theorem Za(L:List Tm)(hL:∀t∈L,TOk t)(hl:L.length<=1000000)(nm:ByteArray)(sal:Int)(ps:List Pt)(AS:List (List D))(r b:Nat)(a:Ac)(ha:∀e∈a.vals,VQ e.val)(hvl:a.vals.length<=1000000)(B:List Int)(st:St):TrF prog 120 [.agg a.cells,.ptr b 0] (.box b 189 [.ip (Jh (L.map Tm.cells) nm sal (ps.map Pt.cells) AS r)]::Fy r B::st) λd st'=>d=.b (Rul.actS L ps B a).1/\st'=.box b 189 [.ip (Jh (L.map Tm.cells) nm sal (ps.map Pt.cells) AS r)]::Fy r (Rul.actS L ps B a).2::st:=by
 have hP:=bF L hL hl nm sal ps AS r a ha hvl B
 unfold Rul.actS
 dsimp only
 generalize Rul.actB L ps B a=q at *
 generalize L.map Tm.cells=LS at *
 generalize ps.map Pt.cells=PS at *
 clear ha hL hl hvl
 cases a with
|mk kind pat tmpl slot vals =>
 unfold Ac.cells at *
 dsimp only at *
 generalize vals.map Ex.cells=ES at *
 replace hP:=Aa hP
 cases q
 all_goals(
  refine Qin [3] func120 results120 ntmps120 ?_
  exact WR)
theorem bE(L:List Tm)(hL:∀t∈L,TOk t)(hl:L.length<=1000000)(x:Rl)(hx:Rul.RK x)(st:St):TrF prog 78 [.sl .shared (L.map Tm.cells),.agg x.cells] st λd st'=>d=.b (Rul.oneB L x)/\st'=st:=by
 have hC:=λ(r b:Nat)=>gq 117 [.ptr b 0] call117 x.pats (by have:=hx.np;omega) (Rul.patS L) (λB=>.box b 189 [.ip (Jh (L.map Tm.cells) x.name x.sal (x.pats.map Pt.cells) (x.acts.map Ac.cells) r)]::Fy r B::st) (λp h B=>Zb L hL hl x.name x.sal _ _ r b p (hx.vt p h) (by have:=hx.nt p h;omega) B st) []
 have hA:=λ(r b:Nat)=>gr 120 [.ptr b 0] call120 x.acts (by have:=hx.na;omega) (Rul.actS L x.pats) (λB=>.box b 189 [.ip (Jh (L.map Tm.cells) x.name x.sal (x.pats.map Pt.cells) (x.acts.map Ac.cells) r)]::Fy r B::st) (λa h B=>Za L hL hl x.name x.sal x.pats _ r b a (hx.va a h) (by have:=hx.nv a h;omega) B st) (Rul.patsF L x.pats []).2
 have hN:=II x.name
 have hm1:(x.pats.map Pt.cells).length=x.pats.length:=Ab ..
 have hm2:(x.acts.map Ac.cells).length=x.acts.length:=Ab ..
 have hc0:∀p,x.pats[0]?=some p->(x.pats.map Pt.cells)[0]?=some p.cells:=λp h=>by rw[Aq,h];rfl
 rw[Rul.anyS_pats]at hC
 rw[Rul.anyS_acts]at hA
 unfold Rul.oneB Rul.headB
 dsimp only at hC hA
 generalize (x.acts.all λa=>Rul.actB L x.pats (Rul.patsF L x.pats []).2 a)=q2 at *
 generalize Rul.patsF L x.pats []=qq at *
 obtain⟨q1,B2⟩:=qq
 dsimp only at *
 cases x with
|mk nm sal ps acts =>
 unfold Rl.cells
 dsimp only at *
 clear hx hL
 generalize V.isName nm.data.toList=qn at *
 generalize L.map Tm.cells=LS at *
 generalize ps.map Pt.cells=PS at *
 generalize acts.map Ac.cells=AS at *
 replace hN:=Aa hN
 replace hC:=Aa hC
 replace hA:=Aa hA
 cases qn with
|false =>
  rw[Aw,Aw]
  refine Qin [4] func78 results78 ntmps78 ?_
  exact WR
|true =>
 rw[AH]
 by_cases s1:sal < -100
 . rw[decide_eq_false (show¬-100<=sal by omega),Aw,Aw,Aw]
   refine Qin [4] func78 results78 ntmps78 ?_
   exact WR
 by_cases s2:100<sal
 . rw[decide_eq_false (show¬sal<=100 by omega),CD,Aw,Aw]
   refine Qin [4] func78 results78 ntmps78 ?_
   exact WR
 rw[decide_eq_true (show -100<=sal by omega),decide_eq_true (show sal<=100 by omega),AH,AH]
 by_cases s3:(ps.length:Int)<1
 . rw[decide_eq_false (show¬1<=ps.length by omega),Aw,Aw,Aw]
   refine Qin [4] func78 results78 ntmps78 ?_
   exact WR
 by_cases s4:4<(ps.length:Int)
 . rw[decide_eq_false (show¬ps.length<=4 by omega),CD,Aw,Aw]
   refine Qin [4] func78 results78 ntmps78 ?_
   exact WR
 rw[decide_eq_true (show 1<=ps.length by omega),decide_eq_true (show ps.length<=4 by omega),AH,AH]
 obtain⟨p,hp⟩:=gEx (l:=ps) (i:=0) q_o
 have hpc:=hc0 p hp
 rw[hp,gX]
 clear hp hc0
 unfold Pt.cells at hpc
 cases p with
|mk ptm png pts =>
 dsimp only at *
 generalize pts.map Ts.cells=TS at *
 cases png with
|true =>
  rw[Fi,Aw,Aw]
  refine Qin [4] func78 results78 ntmps78 ?_
  exact WR
|false =>
 rw[Hk,AH]
 by_cases s5:4<(acts.length:Int)
 . rw[decide_eq_false (show¬acts.length<=4 by omega),Aw]
   refine Qin [4] func78 results78 ntmps78 ?_
   exact WR
 rw[decide_eq_true (show acts.length<=4 by omega),AH]
 cases q1 with
|false =>
  rw[Aw]
  refine Qin [4] func78 results78 ntmps78 ?_
  repeat' (first|refine QV ?_|((with_reducible refine ie ?_);intro bm)|refine QY ?_|refine QB ?_;intro b|with_reducible refine QZ ?_<;>(try constructor)<;>intro hb<;>try intro hb1|refine Qc call116 (hC.out _ _) ?_|fail)
  all_goals exact BZ
|true =>
 rw[AH]
 cases q2
 all_goals(
  refine Qin [4] func78 results78 ntmps78 ?_
  repeat' (first|refine QV ?_|((with_reducible refine ie ?_);intro bm)|refine QY ?_|refine QB ?_;intro b|with_reducible refine QZ ?_<;>(try constructor)<;>intro hb<;>try intro hb1|refine Qc call116 (hC.out _ _) ?_|refine Qc call119 (hA.out _ _) ?_|fail)
  all_goals exact BZ)
theorem Uo(x y:Rl)(b:Nat)(st:St):TrF prog 80 [.agg y.cells,.ptr b 0] (.box b 34 x.cells::st) λd st'=>d=.b (y.name.toList == x.name.toList)/\st'=.box b 34 x.cells::st:=by
 unfold Rl.cells
 cases x with
|mk nm sal ps acts =>
 cases y with
|mk nm2 sal2 ps2 acts2 =>
 dsimp only
 generalize ps.map Pt.cells=PS at *
 generalize acts.map Ac.cells=AS at *
 generalize ps2.map Pt.cells=PS2 at *
 generalize acts2.map Ac.cells=AS2 at *
 refine Qin [3] func80 results80 ntmps80 ?_
 exact WR
namespace Rul
def nmS (x:Rl)(s:Unit)(y:Rl):Bool×Unit:=(y.name.toList == x.name.toList,s)
theorem anyS_nm(x:Rl):∀l:List Rl,anyS (nmS x) () l=(l.any λy=>y.name.toList == x.name.toList,())
|[]=>rfl
|y::l=>by
  rw[anyS,VV]
  unfold nmS
  cases h:(y.name.toList == x.name.toList)with
  | true=>rfl
  | false =>
   dsimp only
   rw[if_neg AJ,Bu]
   exact anyS_nm x l
theorem rightL_drop{L:List Tm}{R l:List Rl}{i:Nat}{x:Rl}(h:l[i]?=some x):rightL L R (l.drop i) i=(oneB L x && (!((R.take i).any λy=>y.name.toList == x.name.toList) && rightL L R (l.drop (i+1)) (i+1))):=by
 obtain⟨h1,rfl⟩:=Af.1 h
 rw[BM h1,rightL]
end Rul
theorem Wl(L:List Tm)(hL:∀t∈L,TOk t)(hl:L.length<=1000000)(R:List Rl)(hR:∀x∈R,Rul.RK x)(hRl:R.length<=1000000)(st:St):TrF prog 47 [.sl .shared (L.map Tm.cells),.sl .shared (R.map Rl.cells)] st λd st'=>d=.b (Rul.right L R)/\st'=st:=by
 have hReg:=Zh L hL hl
 have hO:=Aa λ(x:Rl) (h:x∈R)=>bE L hL hl x (hR x h)
 have hC:=Aa λ(x:Rl) (i b:Nat)=>dw 80 [.ptr b 0] call80 (R.take i) (by rw[AQ];omega) (Rul.nmS x) (λ_=>.box b 34 x.cells::st) (λy h s=>Uo x y b st) ()
 have hm:(R.map Rl.cells).length=R.length:=Ab ..
 have hc:=hMp Rl.cells R
 have htk:Hid (∀i:Nat,(R.take i).map Rl.cells=(R.map Rl.cells).take i):=λi=>NU
 unfold Rul.right
 generalize L.map Tm.cells=LS at *
 obtain⟨RS,hRS⟩:∃RS,R.map Rl.cells=RS:=⟨_,rfl⟩
 rw[hRS]at hm hc htk |-
 have hall:(RS.all λe=>e.length == 4)=true:=by
  rw[<-hRS,AU]
  intro e he
  obtain⟨x, -,rfl⟩:=Av.1 he
  rfl
 clear hRS hR
 cases hq:Reg.right L with
|false =>
  rw[hq]at hReg
  rw[Aw]
  replace hReg:=Aa hReg
  refine Qin [4] func47 results47 ntmps47 ?_
  exact WR
|true =>
 rw[hq]at hReg
 rw[AH]
 replace hReg:=Aa hReg
 by_cases h8:8<(R.length:Int)
 . rw[decide_eq_false (show¬R.length<=8 by omega),Aw]
   refine Qin [4] func47 results47 ntmps47 ?_
   exact WR
 rw[decide_eq_true (show R.length<=8 by omega),AH]
 obtain⟨Q,hQ⟩:∃Q,Rul.rightL L R R 0=Q:=⟨_,rfl⟩
 rw[hQ]
 have HQ:Hid (Rul.rightL L R (R.drop 0) 0=Q):=hQ
 clear hQ
 refine Qin [4] func47 results47 ntmps47 ?_
 repeat' (first|refine QX ?_|refine QB ?_;intro b|with_reducible refine QZ ?_<;>(try constructor)<;>intro hb<;>try intro hb1|fail)
 clear hReg
 refine Bs (ι:=Nat) (λi A st'=>i<=R.length/\Hid (Rul.rightL L R (R.drop i) i=Q)/\A.df=[]/\A.e 0=.sl .shared LS/\A.e 1=.sl .shared RS/\A.e 15=.sl .shared RS/\A.e 16=.i R.length/\A.e 17=.i i/\st=st') (λi=>R.length - i) 0 ⟨Ao _,HQ,Qf,Qf,Qf,Qf,Qf,Qf,rfl⟩ ?_
 rintro i A st' ⟨hi,HT,hdf,e0,e1,e15,e16,e17,rfl⟩
 clear HQ
 by_cases hlt:i<R.length
 . have hle:(i:Int)<=R.length:=by omega
   have hle2:i<=R.length:=by omega
   obtain⟨x,hx⟩:=gEx hlt
   have h1:=hc.out i x hx
   have hOx:=hO.out x (Ah hx)
   have hCx:=hC.out x i
   have HE:=HT.out
   rw[Rul.rightL_drop hx]at HE
   have htki:=htk.out i
   rw[htki,Rul.anyS_nm]at hCx
   dsimp only at hCx
   clear HT hx hO hC hc htk htki
   obtain⟨G,hGG⟩:∃G,Rul.rightL L R (R.drop (i+1)) (i+1)=G:=⟨_,rfl⟩
   rw[hGG]at HE
   replace hGG:=Aa hGG
   generalize Rul.oneB L x=q1 at *
   generalize ((R.take i).any λy=>y.name.toList == x.name.toList)=q2 at *
   unfold Rl.cells at h1 hOx hCx
   generalize x.pats.map Pt.cells=PS at *
   generalize x.acts.map Ac.cells=AS at *
   generalize x.name=nm at *
   generalize x.sal=sal at *
   replace hOx:=Aa hOx
   replace hCx:=Aa hCx
   cases q1 with
   | false =>
    rw[Aw]at HE
    subst HE
    clear hGG
    exact WR
   | true =>
    rw[AH]at HE
    cases q2 with
    | true =>
     rw[Fi,Aw]at HE
     subst HE
     clear hGG
     repeat' (first|refine QX ?_|refine QB ?_;intro b|with_reducible refine QZ ?_<;>(try constructor)<;>intro hb<;>try intro hb1|refine Qc call79 ((hCx.out _)) ?_|fail)
     skip
     all_goals exact BZ
    | false =>
     rw[Hk,AH]at HE
     replace HE:=Aa (hGG.out.trans HE)
     clear hGG
     repeat' (first|refine QX ?_|refine QB ?_;intro b|with_reducible refine QZ ?_<;>(try constructor)<;>intro hb<;>try intro hb1|refine Qc call79 ((hCx.out _)) ?_|fail)
     refine⟨i+1,st,q_u,⟨hlt,HE,?_,?_,?_,?_,?_,?_,rfl⟩,by omega⟩
     all_goals exact Qf
 . have HE:=HT.out
   rw[Az q_o,Rul.rightL]at HE
   subst HE
   clear HT
   exact WR
end
section
attribute [local push_cast] Br Bl Nat.mul_one Int.sub_zero
def KU (b:List UInt8):List D:=[.sl .shared (b.map Br)]
attribute [local push_cast] KU
end
section
attribute [local push_cast] Br Bl KU V.cells_mk V.cells_take V.cells_len Nat.mul_one Int.sub_zero
open Go.RowKit B
theorem fo(n:Int)(st:St):TrF prog 44 [.i n] st λx st'=>x=.agg (V.mk 2 n ⟨#[]⟩ []).cells/\st'=st:=by
 refine gW 2 30 func44 ntmps44 ?_
 repeat' (first|refine QX ?_|refine QB ?_;intro b|with_reducible refine QZ ?_<;>(try constructor)<;>intro hb<;>try intro hb1|fail)
 all_goals exact VP
end
section
attribute [local push_cast] Br Bl BV KU V.cells_mk V.cells_len Nat.mul_one Int.sub_zero List.map_nil beq_self_eq_true bne_self_eq_false List.head?_cons
open Go.RowKit B
namespace Reg
def Oj (n:Int):List UInt8:=if 0<=n/\n<=255 then[UInt8.ofNat n.toNat]else[]
def kp (s:Sl):List (List UInt8):=[tx s.name.data.toList,Oj s.types,Oj (if s.req then 1 else 0),s.dv.bin]
def ia (s:Sl):List UInt8:=(kp s).flatten
end Reg
namespace Reg
def b8 (n:Int):UInt8:=UInt8.ofNat (n % 256).toNat
def bh (p:Stp):List UInt8 :=
 if p.kind=1 then[Oj p.kind,ia p.slot].flatten
 else if p.kind=2\/p.kind=3\/p.kind=4 then[Oj p.kind,Oj p.col].flatten
 else if p.kind=5 then[Oj p.kind,be 4 p.order.length].flatten++p.order.map b8
 else Oj p.kind
def ko (p:Stp):List UInt8 :=
 if p.kind=3 then[bh p,tx p.slot.name.data.toList].flatten
 else if p.kind=4 then[bh p,Oj p.slot.types].flatten
 else bh p
end Reg
end
section
attribute [local push_cast] Br Bl BV KU V.cells_mk V.cells_len Nat.mul_one Int.sub_zero List.map_nil beq_self_eq_true bne_self_eq_false List.head?_cons
open Go.RowKit B
set_option maxHeartbeats 16000000
namespace Rul
def nI (n:Int):Bool:=decide (n<0) || decide (255<n)
end Rul
end
section
attribute [local push_cast] Br Bl BV KU V.cells_mk V.cells_len Nat.mul_one Int.sub_zero List.map_nil beq_self_eq_true bne_self_eq_false List.head?_cons
open Go.RowKit B
namespace Reg
def SlP (s:Sl):Prop:=s.name.size<=300/\s.dv.nodes<=1000/\s.dv.Ok
def StP (p:Stp):Prop:=SlP p.slot/\p.order.length<=1000
structure TmP (t:Tm):Prop where
 nm:t.name.size<=300
 ls:t.slots.length<=8
 lt:t.steps.length<=8
 os:∀s∈t.slots,SlP s
 ot:∀s∈t.steps,StP s
def cJ {α:Type}(f:α->List UInt8)(l:List α):List UInt8:=be 4 l.length++(l.map f).flatten
def tmP (t:Tm):List (List UInt8):=[tx t.name.data.toList,cJ ia t.slots,cJ ko t.steps]
def tmB (t:Tm):List UInt8:=(tmP t).flatten
def put (L:List Tm):List UInt8:=if right L=true then cJ tmB L else[]
end Reg
end
section
attribute [local push_cast] Br Bl BV V.cells_mk V.cells_len Nat.mul_one Int.sub_zero List.map_nil beq_self_eq_true bne_self_eq_false List.head?_cons
namespace Reg
def dI {α:Type}(f:α->α->Bool):List α->List α->Bool
|[],[]=>true
|a::l,b::m=>f a b && dI f l m
|_,_=>false
def hZ (a b:Sl):Bool:=(a.name.toList == b.name.toList) && ((a.types == b.types) && ((a.req == b.req) && (a.dv.cmp b.dv == 0)))
def kk (a b:Stp):Bool:=(a.kind == b.kind) && ((a.col == b.col) && (hZ a.slot b.slot && dI (· == ·) a.order b.order))
def tmS (a b:Tm):Bool:=(a.name.toList == b.name.toList) && (dI hZ a.slots b.slots && dI kk a.steps b.steps)
def same (a b:List Tm):Bool:=dI tmS a b
structure TmQ (t:Tm):Prop where
 ls:t.slots.length<=1000000
 lt:t.steps.length<=1000000
 os:∀s∈t.slots,s.dv.Bg
 ot:∀s∈t.steps,s.slot.dv.Bg/\s.order.length<=1000000
end Reg
end
namespace RS
end RS
section
attribute [local push_cast] Br Bl RS.cells V.cells_mk V.cells_len Nat.mul_one Int.sub_zero List.map_nil beq_self_eq_true bne_self_eq_false List.head?_cons
open Go.RowKit B
namespace Reg
def rdL {α:Type}(f:RS->α×RS):Nat->RS->List α×RS
|0,s=>([],s)
|n+1,s=>if s.bad=true then([],s)else((f s).1::(rdL f n (f s).2).1,(rdL f n (f s).2).2)
def Kk {α:Type}(f:RS->α×RS)(k:Int)(s:RS):List α×RS:=rdL f (if k<s.rnum.1 then k else s.rnum.1).toNat s.rnum.2
def Mr:Sl:=⟨⟨#[]⟩,0,false,V.zero⟩
def MP (s:RS):Sl×RS :=
 (⟨if 1<s.text.2.byte.2.byte.1 then⟨#[]⟩else s.text.1,s.text.2.byte.1,s.text.2.byte.2.byte.1 == 1,s.text.2.byte.2.byte.2.val.1⟩,s.text.2.byte.2.byte.2.val.2)
def Yi (s:RS):Stp×RS :=
 if s.byte.1=1 then(⟨1,0,(MP s.byte.2).1,[]⟩,(MP s.byte.2).2)
 else if s.byte.1=2 then(⟨2,s.byte.2.byte.1,Mr,[]⟩,s.byte.2.byte.2)
 else if s.byte.1=3 then(⟨3,s.byte.2.byte.1,{Mr with name:=s.byte.2.byte.2.text.1},[]⟩,s.byte.2.byte.2.text.2)
 else if s.byte.1=4 then(⟨4,s.byte.2.byte.1,{Mr with types:=s.byte.2.byte.2.byte.1},[]⟩,s.byte.2.byte.2.byte.2)
 else if s.byte.1=5 then(⟨5,0,Mr,(Kk RS.byte 9 s.byte.2).1⟩,(Kk RS.byte 9 s.byte.2).2)
 else(⟨s.byte.1,0,Mr,[]⟩,s.byte.2)
def Vo (s:RS):Tm×RS :=
 (⟨s.text.1,(Kk MP 9 s.text.2).1,(Kk Yi 9 (Kk MP 9 s.text.2).2).1⟩,(Kk Yi 9 (Kk MP 9 s.text.2).2).2)
def read (s:RS):Option (List Tm)×RS :=
 if (Kk Vo 7 s).2.bad=true\/right (Kk Vo 7 s).1=false then(none,(Kk Vo 7 s).2)else(some (Kk Vo 7 s).1,(Kk Vo 7 s).2)
end Reg
theorem Stp.cells_mk(kind col:Int)(nm:ByteArray)(ty:Int)(rq:Bool)(k n:Int)(sv:ByteArray)(lv:List V)(order:List Int):(Stp.mk kind col (Sl.mk nm ty rq (.mk k n sv lv)) order).cells=[.i kind,.i col,.str nm,.i ty,.b rq,.i k,.i n,.str sv,.sl .shared (lv.map V.cells),.sl .shared (order.map Bl)]:=by
 unfold Stp.cells
 rw[Sl.cells_mk];rfl
theorem Tm.cells_mk(nm:ByteArray)(ss:List Sl)(tt:List Stp):(Tm.mk nm ss tt).cells=[.str nm,.sl .shared (ss.map Sl.cells),.sl .shared (tt.map Stp.cells)]:=rfl
namespace Reg
def get (b:List UInt8):Option (List Tm):=if (read ⟨.shared,b,false⟩).1.isSome=true/\(read ⟨.shared,b,false⟩).2.bad=false/\(read ⟨.shared,b,false⟩).2.l.length=0 then(read ⟨.shared,b,false⟩).1 else none
end Reg
end
section
open Go.RowKit B
namespace B
end B
namespace RS
end RS
namespace RS
def Ex {α:Type}(f:RS->α×RS):Prop:=∀o l x o' r,f ⟨o,l,false⟩=(x,⟨o',r,false⟩)->∀q,f ⟨o,l++q,false⟩=(x,⟨o',r++q,false⟩)
def Bd {α:Type}(f:RS->α×RS):Prop:=∀s,s.bad=true->(f s).2.bad=true
end RS
end
namespace Sch
def cut (t:Tm)(k:Nat):Tm:=⟨t.name,t.slots,t.steps.take k⟩
end Sch
structure Rc where
 v:Int
 s:List V
def Rc.cells (r:Rc):List D:=[.i r.v,.sl .shared (r.s.map V.cells)]
namespace Sch
structure Grow (a b:List Sl):Prop where
 len:a.length<=b.length
 old:∀(i:Nat) (s:Sl),a[i]?=some s->∃s',b[i]?=some s'/\s'.dv=s.dv/\∀v,fits s v=true->fits s' v=true
theorem Grow.refl(a:List Sl):Grow a a:=⟨Ap _,λ_ s h=>⟨s,h,rfl,λ_ h=>h⟩⟩
theorem Grow.trans{a b c:List Sl}(h:Grow a b)(k:Grow b c):Grow a c:=by
 refine⟨Cp h.len k.len,λi s hs=>?_⟩
 obtain⟨s1,h1,h2,h3⟩:=h.old i s hs
 obtain⟨s2,k1,k2,k3⟩:=k.old i s1 h1
 exact⟨s2,k1,k2.trans h2,λv hv=>k3 v (h3 v hv)⟩
structure SOk (s:Sl):Prop where
 name:V.isName s.name.data.toList=true
 types:takes s.types=true
 def_:fits s s.dv=true
end Sch
section
open Go.RowKit B
namespace Reg
structure SlG (s:Sl):Prop where
 nm:s.name.size<=300
 ty:0<=s.types/\s.types<=255
 dv:s.dv.right=true
 ok:s.dv.Ok
def StG (p:Stp):Prop :=
 (p.kind=1/\p.col=0/\SlG p.slot/\p.order=[])\/(p.kind=2/\(0<=p.col/\p.col<=255)/\p.slot=Mr/\p.order=[]) \/
 (p.kind=3/\(0<=p.col/\p.col<=255)/\p.slot={Mr with name:=p.slot.name}/\p.slot.name.size<=300/\p.order=[]) \/
 (p.kind=4/\(0<=p.col/\p.col<=255)/\p.slot={Mr with types:=p.slot.types}/\(0<=p.slot.types/\p.slot.types<=255)/\p.order=[]) \/
 (p.kind=5/\p.col=0/\p.slot=Mr/\p.order.length<=8/\∀k∈p.order,0<=k/\k<=255)
structure TmG (t:Tm):Prop where
 nm:t.name.size<=300
 ls:t.slots.length<=8
 lt:t.steps.length<=8
 os:∀s∈t.slots,SlG s
 ot:∀s∈t.steps,StG s
end Reg
namespace Sch
end Sch
theorem Reg.TmG.put{t:Tm}(h:Reg.TmG t)(hs:∀s∈t.steps,s.slot.name.size<=300/\s.slot.dv.nodes<=1000/\s.slot.dv.Ok):Reg.TmP t :=
 ⟨h.nm,h.ls,h.lt,λs k=>⟨(h.os s k).nm,by have:=(V.right_iff.1 (h.os s k).dv).2.2;omega,(h.os s k).ok⟩,λs k=>⟨hs s k,by
  rcases h.ot s k with h|h|h|h|h
  . rw[h.2.2.2];exact Ao _
  . rw[h.2.2.2];exact Ao _
  . rw[h.2.2.2.2];exact Ao _
  . rw[h.2.2.2.2];exact Ao _
  . have:=h.2.2.2.1;omega⟩⟩
namespace Reg
theorem PH(nm:ByteArray):∀(l:List Tm) (i:Nat),(findL nm l i = -1/\∀t∈l,¬t.name.toList=nm.toList)\/∃(j:Nat) (t:Tm),l[j]?=some t/\t.name.toList=nm.toList/\findL nm l i=((i+j:Nat):Int)/\∀(k:Nat) (u:Tm),k<j->l[k]?=some u->¬u.name.toList=nm.toList
|[],i=>.inl ⟨rfl,fun t h=>by cases h⟩
|t::l,i=>by
  rw[findL]
  by_cases h:t.name.toList=nm.toList
  . rw[if_pos (beq_iff_eq.2 h)]
    exact .inr ⟨0,t,rfl,h,rfl,λk u hk=>by omega⟩
  . rw[if_neg (λk=>h (beq_iff_eq.1 k))]
    rcases PH nm l (i+1)with⟨h1,h2⟩|⟨j,u,h1,h2,h3,h4⟩
    . exact .inl ⟨h1, λu hu => by
       rcases Ax.1 hu with rfl|hu
       . exact h
       . exact h2 u hu⟩
    . refine .inr ⟨j+1,u,h1,h2,by rw[h3];congr 1;omega,λk v hk hv=>?_⟩
      cases k with
      | zero=>cases hv;exact h
      | succ k=>exact h4 k v q_o hv
theorem ge{L:List Tm}{nm:ByteArray}{i:Nat}{t:Tm}(ht:L[i]?=some t)(hn:t.name.toList=nm.toList)(h:∀(k:Nat) (u:Tm),k<i->L[k]?=some u->¬u.name.toList=nm.toList):find L nm=i:=by
 unfold find
 rcases PH nm L 0 with⟨h1,h2⟩|⟨j,u,h1,h2,h3,h4⟩
 . exact absurd hn (h2 t (Ah ht))
 . rw[h3,Bo]
   rcases Ni i j with hl|he|hl
   . exact absurd hn (h4 i t hl ht)
   . rw[he]
   . exact absurd h2 (h j u hl h1)
def Apart (L:List Tm):Prop:=∀(i j:Nat) (t u:Tm),L[i]?=some t->L[j]?=some u->t.name.toList=u.name.toList->i=j
theorem Xg{L:List Tm}:Apart L↔∀(i:Nat) (t:Tm),L[i]?=some t->find L t.name=i:=by
 constructor
 . intro h i t ht
   exact ge ht rfl λk u hk hu he=>by have:=h k i u t hu ht he;omega
 . intro h i j t u ht hu he
   have h1:=h i t ht
   have h2:=h j u hu
   have e:find L t.name=find L u.name:=by
    have:∀(l:List Tm) (i:Nat),findL t.name l i=findL u.name l i:=λl=>by
     induction l with
     | nil=>intro _;rfl
     | cons a l ih=>intro i;rw[findL,findL,he,ih]
    exact this L 0
   rw[h1,h2]at e
   exact lK e
theorem rightL_iff(L:List Tm):∀(l:List Tm) (i:Nat),rightL L l i=true↔∀(j:Nat) (t:Tm),l[j]?=some t->i+j<6/\0<Sch.last t/\find L t.name=((i+j:Nat):Int)
|[],i=>⟨fun _ j t h=>(by cases h),λ_=>rfl⟩
|t::l,i=>by
  rw[rightL,AF,AF,AF,decide_eq_true_eq,decide_eq_true_eq,beq_iff_eq,rightL_iff L l (i+1)]
  constructor
  . rintro⟨h1,h2,h3,h4⟩ j u hu
    cases j with
    | zero=>cases hu;exact⟨h1,h2,h3⟩
    | succ j =>
     have:=h4 j u hu
     rw[show i+1+j=i+(j+1) by omega]at this
     exact this
  . intro h
    have h0:=h 0 t rfl
    refine⟨h0.1,h0.2.1,h0.2.2,λj u hu=>?_⟩
    have:=h (j+1) u hu
    rw[show i+(j+1)=i+1+j by omega]at this
    exact this
theorem right_iff{L:List Tm}:right L=true↔L.length<=6/\(∀t∈L,0<Sch.last t)/\Apart L:=by
 unfold right
 rw[rightL_iff,Xg]
 constructor
 . intro h
   refine⟨?_,?_,?_⟩
   . rcases Dv 6 L.length with hl|hl
     . obtain⟨t,ht⟩:=gEx hl
       have:=(h 6 t ht).1
       omega
     . exact hl
   . intro t ht
     obtain⟨i,hi⟩:=BT ht
     exact(h i t hi).2.1
   . intro i t ht
     have:=(h i t ht).2.2
     rwa[Bo]at this
 . rintro⟨h1,h2,h3⟩ j t ht
   have hj:=(Af.1 ht).1
   exact⟨by omega,h2 t (Ah ht),by rw[Bo];exact h3 j t ht⟩
end Reg
end
section
attribute [local push_cast] Br Bl BV V.cells_mk V.cells_len Nat.mul_one Int.sub_zero List.map_nil beq_self_eq_true List.head?_cons
abbrev RI:=Nat×Nat×List D
def lG (x:Vr)(s:Stp)(st:St)(d:D)(st':St):Prop :=
 (Sch.stepV x s=none/\∃X1 X2,d=.tup [.agg [.sl .shared X1,.sl .shared X2],.b false]/\st'=st)\/∃y,Sch.stepV x s=some y/\d=.tup [.agg y.cells,.b true]/\st'=st
structure RefP (x:Vr)(s:Stp):Prop where
 vi:Sch.VI 1000 x
 q:VQ s.slot.dv
 ty : -9223372036854775808<=s.slot.types/\s.slot.types<=9223372036854775807
 ord:s.order.length<=1000
abbrev ou (o1 o2:Own)(L1 L2:List (List D))(ok:Bool):LE (.tup [.agg [.sl o1 L1,.sl o2 L2],.b ok]) (.tup [.agg [.sl .shared L1,.sl .shared L2],.b ok]):=LE.tup (l:=[.agg [.sl o1 L1,.sl o2 L2],.b ok]) ⟨LE.agg (l:=[.sl o1 L1,.sl o2 L2]) ⟨LE.sl _ _,LE.sl _ _,trivial⟩,LE.refl _,trivial⟩
def oN (x:Vr)(s:Stp)(st:St)(d:D)(st':St):Prop:=∃i:(Bool×Vr)×(Nat×Nat×List D)×(Nat×Nat×List D),(Sch.stepV x s=if i.1.1 then some i.1.2 else none)/\d=.tup [.agg [.ar i.2.1.1 0 i.1.2.slots.length i.2.1.2.1,.ar i.2.2.1 0 i.1.2.cols.length i.2.2.2.1],.b i.1.1]/\st'=.box i.2.1.1 184 ((i.1.2.slots.map Sl.cells).flatten++i.2.1.2.2)::.box i.2.2.1 3 ((i.1.2.cols.map BV).flatten++i.2.2.2.2)::st
end
section
attribute [local push_cast] Br Bl BV V.cells_mk V.cells_len Nat.mul_one Int.sub_zero List.map_nil beq_self_eq_true List.head?_cons
end
section
attribute [local push_cast] Br Bl BV V.cells_mk V.cells_len Nat.mul_one Int.sub_zero List.map_nil beq_self_eq_true List.head?_cons
def oh (x:Vr)(st:St)(d:D)(st':St):Prop:=∃gs cS zS,(Db x.slots++zS).length=cS*7/\d=D.agg [.ar gs 0 x.slots.length cS,.sl .shared (x.cols.map BV)]/\st'=Res.box gs 184 (Db x.slots++zS)::st
def oO (x:Vr)(s:Stp)(st:St)(d:D)(st':St):Prop:=∃i:(Bool×Vr)×RI,(Sch.stepV x s=if i.1.1 then some i.1.2 else none)/\d=.tup [.agg [.ar i.2.1 0 i.1.2.slots.length i.2.2.1,.sl .shared (i.1.2.cols.map BV)],.b i.1.1]/\st'=.box i.2.1 184 ((i.1.2.slots.map Sl.cells).flatten++i.2.2.2)::st
def wt (t s:Nat):Nat->Nat
|0=>t
|k+1=>if Sch.has s k && !Sch.has (wt t s k) k then wt t s k+2 ^ k else wt t s k
def wm (t s:Nat):Nat->Bool
|0=>false
|k+1=>if Sch.has s k && !Sch.has (wt t s k) k then true else wm t s k
end
namespace Sch
def put (cols:List Nat)(l:List Int):List Nat:=l.map λo=>cols.getD o.toNat 0
end Sch
section
attribute [local push_cast] Br Bl BV V.cells_mk V.cells_len Nat.mul_one Int.sub_zero List.map_nil beq_self_eq_true List.head?_cons
def om (x:Vr)(st:St)(d:D)(st':St):Prop:=∃gc cC zC,(DK x.cols++zC).length=cC*1/\d=D.agg [.sl .shared (x.slots.map Sl.cells),.ar gc 0 x.cols.length cC]/\st'=Res.box gc 3 (DK x.cols++zC)::st
def oM (x:Vr)(s:Stp)(st:St)(d:D)(st':St):Prop:=∃i:(Bool×Vr)×RI,(Sch.stepV x s=if i.1.1 then some i.1.2 else none)/\d=.tup [.agg [.sl .shared (i.1.2.slots.map Sl.cells),.ar i.2.1 0 i.1.2.cols.length i.2.2.1],.b i.1.1]/\st'=.box i.2.1 3 ((i.1.2.cols.map BV).flatten++i.2.2.2)::st
namespace Sch
structure VZ (n:Nat)(x:Vr):Prop where
 vi:VI n x
 nd:x.cols.Nodup
 sl:∀z∈x.slots,SOk z
end Sch
structure TQ (t:Tm):Prop where
 ls:t.slots.length<=1000
 lt:t.steps.length<=1000
 os:∀s∈t.slots,VQ s.dv/\(-9223372036854775808<=s.types/\s.types<=9223372036854775807)
 ot:∀s∈t.steps,VQ s.slot.dv/\(-9223372036854775808<=s.slot.types/\s.slot.types<=9223372036854775807)/\s.order.length<=1000
def Sch.refVers (t:Tm):List Vr:=if 0<Sch.last t then Sch.vers t else[]
end
section
end
section
attribute [local push_cast] Br Bl BV V.cells_mk V.cells_len Nat.mul_one Int.sub_zero List.map_nil beq_self_eq_true bne_self_eq_false List.head?_cons
namespace Reg
def mo (L:List Tm)(i:Nat):Prop:=∀(j:Nat) (t:Tm),j<i->L[j]?=some t->0<Sch.last t/\∀(k:Nat) (u:Tm),k<j->L[k]?=some u->(t.name.toList == u.name.toList)=false
end Reg
end
section
attribute [local push_cast] Br Bl KU V.cells_mk V.cells_take V.cells_len Nat.mul_one Int.sub_zero
open Go.RowKit B
end
section
attribute [local push_cast] Br Bl KU V.cells_mk V.cells_take V.cells_len Nat.mul_one Int.sub_zero
open Go.RowKit B
end
section
attribute [local push_cast] Br Bl BV KU V.cells_mk V.cells_len Nat.mul_one Int.sub_zero List.map_nil beq_self_eq_true bne_self_eq_false List.head?_cons
open Go.RowKit B
namespace Reg
end Reg
end
section
attribute [local push_cast] Br Bl BV KU V.cells_mk V.cells_len Nat.mul_one Int.sub_zero List.map_nil beq_self_eq_true bne_self_eq_false List.head?_cons
open Go.RowKit B
set_option maxHeartbeats 16000000
namespace Reg
def oo {α:Type}(f:α->List UInt8)(X:List UInt8)(l:List α)(i:Nat):List UInt8:=X++((l.take i).map f).flatten
end Reg
namespace Rul
def RB {α:Type}(f:α->List UInt8×Bool)(l:List α):List UInt8×Bool:=(be 4 l.length++(l.map λa=>(f a).1).flatten,l.any λa=>(f a).2)
end Rul
namespace Rul
def lm (b:Bool):Int:=if b then 1 else 0
def XZ (l:List Int):List UInt8×Bool:=(l.map Reg.b8,l.any nI)
def ay (a b:List UInt8×Bool):List UInt8×Bool:=(a.1++b.1,a.2 || b.2)
def jQ (v:V):List UInt8×Bool:=(v.bin,decide (v.bin=[]))
def tsW (t:Ts):List UInt8×Bool:=ay (XZ [t.kind,t.slot,t.var]) (jQ t.val)
def ptW (p:Pt):List UInt8×Bool:=ay (XZ [p.tmpl,lm p.neg]) (RB tsW p.tests)
def exW (e:Ex):List UInt8×Bool:=ay (XZ [lm e.isVar,e.var]) (jQ e.val)
def acW (a:Ac):List UInt8×Bool:=ay (XZ [a.kind,a.pat,a.tmpl,a.slot]) (RB exW a.vals)
def kW (x:Rl):List UInt8:=[tx x.name.data.toList,be 8 (IntKind.u64.wrap x.sal).toNat].flatten
def rlW (x:Rl):List UInt8×Bool:=ay (ay (kW x,false) (RB ptW x.pats)) (RB acW x.acts)
def put (R:List Rl):List UInt8:=if (RB rlW R).2=true then[]else(RB rlW R).1
end Rul
end
section
attribute [local push_cast] Br Bl BV KU V.cells_mk V.cells_len Nat.mul_one Int.sub_zero List.map_nil beq_self_eq_true bne_self_eq_false List.head?_cons
open Go.RowKit B
set_option maxHeartbeats 16000000
end
section
attribute [local push_cast] Br Bl RS.cells V.cells_mk V.cells_len Nat.mul_one Int.sub_zero List.map_nil beq_self_eq_true bne_self_eq_false List.head?_cons
open Go.RowKit B
set_option maxHeartbeats 16000000
namespace Rul
abbrev GS:=RS×Bool
def io (s:GS):Bool×GS:=(s.1.byte.1 == 1,(s.1.byte.2,s.2 && decide (s.1.byte.1<=1)))
def MW (s:GS):Int×GS:=(s.1.byte.1,(s.1.byte.2,s.2))
def jR (s:GS):V×GS:=(s.1.val.1,(s.1.val.2,s.2))
def rdG {α:Type}(f:GS->α×GS):Nat->GS->List α×GS
|0,s=>([],s)
|n+1,s=>if s.1.bad=true then([],s)else((f s).1::(rdG f n (f s).2).1,(rdG f n (f s).2).2)
def Vn {α:Type}(f:GS->α×GS)(k:Int)(s:GS):List α×GS:=rdG f (if k<s.1.rnum.1 then k else s.1.rnum.1).toNat (s.1.rnum.2,s.2)
def tsG (s:GS):Ts×GS :=
 let a:=MW s;let b:=MW a.2;let c:=MW b.2;let d:=jR c.2
 (⟨a.1,b.1,c.1,d.1⟩,d.2)
def exG (s:GS):Ex×GS :=
 let a:=io s;let b:=MW a.2;let d:=jR b.2
 (⟨a.1,b.1,d.1⟩,d.2)
def ptG (s:GS):Pt×GS :=
 let a:=MW s;let b:=io a.2;let d:=Vn tsG 7 b.2
 (⟨a.1,b.1,d.1⟩,d.2)
def acG (s:GS):Ac×GS :=
 let a:=MW s;let b:=MW a.2;let c:=MW b.2;let d:=MW c.2;let e:=Vn exG 17 d.2
 (⟨a.1,b.1,c.1,d.1,e.1⟩,e.2)
def rlG (s:GS):Rl×GS :=
 let a:=s.1.text;let b:=a.2.long;let c:=Vn ptG 5 (b.2,s.2);let d:=Vn acG 5 c.2
 (⟨a.1,b.1,c.1,d.1⟩,d.2)
def read (L:List Tm)(s:RS):Option (List Rl)×RS :=
 let x:=Vn rlG 9 (s,true)
 if x.2.1.bad=true\/x.2.2=false\/right L x.1=false then(none,x.2.1)else(some x.1,x.2.1)
end Rul
end
section
attribute [local push_cast] Br Bl RS.cells V.cells_mk V.cells_len Nat.mul_one Int.sub_zero List.map_nil beq_self_eq_true bne_self_eq_false List.head?_cons
open Go.RowKit B
set_option maxHeartbeats 16000000
end
section
open Go.RowKit B
namespace Rul
def Byt (n:Int):Prop:=0<=n/\n<=255
structure ValG (v:V):Prop where
 r:v.right=true
 ok:v.Ok
structure TsG (t:Ts):Prop where
 k:Byt t.kind
 s:Byt t.slot
 v:Byt t.var
 g:ValG t.val
structure PtG (p:Pt):Prop where
 t:Byt p.tmpl
 l:p.tests.length<=6
 g:∀t∈p.tests,TsG t
structure ExG (e:Ex):Prop where
 v:Byt e.var
 g:ValG e.val
structure AcG (a:Ac):Prop where
 k:Byt a.kind
 p:Byt a.pat
 t:Byt a.tmpl
 s:Byt a.slot
 l:a.vals.length<=16
 g:∀e∈a.vals,ExG e
structure RlG (x:Rl):Prop where
 nm:x.name.size<=900000
 sal : -9223372036854775808<=x.sal/\x.sal<=9223372036854775807
 lp:x.pats.length<=4
 la:x.acts.length<=4
 gp:∀p∈x.pats,PtG p
 ga:∀a∈x.acts,AcG a
theorem aP{t:Tm}{v:Int}{x:Vr}(h:Sch.ver t v=some x):x∈Sch.vers t:=by
 unfold Sch.ver at h
 split at h
 . exact Ah h
 . cases h
theorem ej(t:Tm)(v:Int):(Sch.verX t v).slots.length<=16:=by
 unfold Sch.verX
 cases hv:Sch.ver t v with
|none=>exact Ao _
|some x=>exact(Sch.vers_vi (aP hv)).ls
theorem slots_le(L:List Tm)(k:Int):(slots L k).length<=16:=by
 unfold slots
 split
 . split
   . exact ej ..
   . exact Ao _
 . exact Ao _
def In8 (B:List Int):Prop:=∀n∈B,0<=n/\n<8
theorem rightL_iff{L:List Tm}{R:List Rl}:∀(l:List Rl) (i:Nat),rightL L R l i=true↔∀(j:Nat) (x:Rl),l[j]?=some x->oneB L x=true/\∀y∈R.take (i+j),¬y.name.toList=x.name.toList
|[],i=>⟨fun _ j x h=>(by cases h),λ_=>rfl⟩
|x::l,i=>by
  rw[rightL,AF,AF,Cs,DG,rightL_iff l (i+1)]
  constructor
  . rintro⟨h1,h2,h3⟩ j y hy
    cases j with
    | zero=>cases hy;exact⟨h1,λy hy he=>h2 y hy (beq_iff_eq.2 he)⟩
    | succ j =>
     have:=h3 j y hy
     rwa[show i+1+j=i+(j+1) by omega]at this
  . intro h
    refine⟨(h 0 x rfl).1,λy hy he=>(h 0 x rfl).2 y hy (beq_iff_eq.1 he),λj y hy=>?_⟩
    have:=h (j+1) y hy
    rwa[show i+(j+1)=i+1+j by omega]at this
theorem right_iff{L:List Tm}{R:List Rl}:right L R=true↔Reg.right L=true/\R.length<=8/\(∀x∈R,oneB L x=true)/\∀(i j:Nat) (x y:Rl),R[i]?=some x->R[j]?=some y->j<i->¬y.name.toList=x.name.toList:=by
 unfold right
 rw[AF,AF,decide_eq_true_eq,rightL_iff]
 constructor
 . rintro⟨h1,h2,h3⟩
   refine⟨h1,h2,λx hx=>?_,λi j x y hx hy hij=>?_⟩
   . obtain⟨i,hi⟩:=BT hx
     exact(h3 i x hi).1
   . refine(h3 i x hx).2 y ?_
     rw[Bo]
     exact Ah (by rw[NW hij];exact hy)
 . rintro⟨h1,h2,h3,h4⟩
   refine⟨h1,h2,λi x hx=>⟨h3 x (Ah hx),λy hy=>?_⟩⟩
   rw[Bo]at hy
   obtain⟨j,hj⟩:=BT hy
   have hji:j<i:=by
    have:=(Af.1 hj).1
    rw[AQ]at this
    omega
   rw[NW hji]at hj
   exact h4 i j x y hx hj hji
end Rul
end
section
attribute [local push_cast] Br Bl BV V.cells_mk V.cells_len Nat.mul_one Int.sub_zero List.map_nil beq_self_eq_true List.head?_cons
namespace Sch
def greatS (s:Sl):Bool:=s.dv.great || decide (300<s.name.size)
def greatP (s:Stp):Bool:=s.slot.dv.great || (decide (300<s.slot.name.size) || decide (30<s.order.length))
def great (t:Tm):Bool:=decide (30<t.slots.length) || (decide (30<t.steps.length) || (decide (300<t.name.size) || (t.slots.any greatS || t.steps.any greatP)))
end Sch
theorem GM{α:Type}{p:α->Bool}{l:List α}{i:Nat}{x:α}(h:l[i]?=some x):(l.drop i).any p=(p x || (l.drop (i+1)).any p):=by
 obtain⟨h1,rfl⟩:=Af.1 h
 rw[BM h1,VV]
theorem UD(t:Tm)(hw:t.Wf)(st:St):TrF prog 76 [.agg t.cells] st λd st'=>d=.b (Sch.great t)/\st'=st:=by
 obtain⟨-,hws,hsl,hwp,hpl⟩:=hw
 obtain⟨B,hB⟩:∃B,Sch.great t=B:=⟨_,rfl⟩
 rw[hB]
 unfold Sch.great at hB
 cases t with
|mk nm slots steps =>
 unfold Tm.cells
 dsimp only at hB hws hwp hsl hpl |-
 have hws2:=Aa hws
 have hwp2:=Aa hwp
 clear hws hwp
 have hml:(slots.map Sl.cells).length=slots.length:=Ab ..
 have hmp:(steps.map Stp.cells).length=steps.length:=Ab ..
 have hcl:=hMp Sl.cells slots
 have hcp:=hMp Stp.cells steps
 generalize slots.map Sl.cells=SL at *
 generalize steps.map Stp.cells=TL at *
 have hn1:=hml
 have hn2:=hmp
 unfold maxLen at hsl hpl
 by_cases h1:30<slots.length
 . have hBt:B=true:=by rw[<-hB];simp[h1]
   subst hBt
   clear hB
   refine Qin [2] func76 results76 ntmps76 ?_
   exact WR
 by_cases h2:30<steps.length
 . have hBt:B=true:=by rw[<-hB];simp[h2]
   subst hBt
   clear hB
   refine Qin [2] func76 results76 ntmps76 ?_
   exact WR
 by_cases h3:300<nm.size
 . have hBt:B=true:=by rw[<-hB];simp[h3]
   subst hBt
   clear hB
   refine Qin [2] func76 results76 ntmps76 ?_
   exact WR
 have HB:Hid (((slots.drop 0).any Sch.greatS || steps.any Sch.greatP)=B):=Aa (by rw[<-hB];simp[h1,h2,h3])
 clear hB
 refine Qin [2] func76 results76 ntmps76 ?_
 repeat' (first|refine QX ?_|refine QB ?_;intro b|with_reducible refine QZ ?_<;>(try constructor)<;>intro hb<;>try intro hb1|fail)
 refine DN (ι:=Nat) (λi A st'=>i<=slots.length/\Hid (((slots.drop i).any Sch.greatS || steps.any Sch.greatP)=B)/\A.df=[]/\A.e 1=.ip [.str nm,.sl .shared SL,.sl .shared TL]/\A.e 3=.i i/\st=st') (λi=>slots.length - i) 0 ⟨Ao _,HB,Qf,Qf,Qf,rfl⟩ ?_
 rintro i A st' ⟨hi,HT,hdf,e1,e3,rfl⟩
 clear HB
 by_cases hlt:i<slots.length
 . obtain⟨s,hs⟩:=gEx hlt
   have HE:=HT.out
   rw[GM hs,Ks]at HE
   have hc:=hcl.out i s hs
   have hG:=JC s.dv (hws2.out s (Ah hs)).2.2
   clear HT hs
   unfold Sch.greatS at HE
   cases s with
   | mk snm ty rq dv =>
   dsimp only at HE hG
   generalize V.great dv=g at *
   cases dv with
   | mk k n sv l =>
   rw[Sl.cells_mk]at hc
   rw[V.cells_mk]at hG
   replace hG:=Aa hG
   cases g with
   | true =>
    simp only[BQ]at HE
    subst HE
    exact WR
   | false =>
    by_cases h4:300<snm.size
    . simp only[h4,decide_true,Dk,BQ]at HE
      subst HE
      exact WR
    . rw[decide_eq_false h4,aJ,Bu]at HE
      replace HE:=Aa HE
      repeat' (first|refine QX ?_|refine QB ?_;intro b|with_reducible refine QZ ?_<;>(try constructor)<;>intro hb<;>try intro hb1|fail)
      refine⟨i+1,⟨hlt,HE,?_,?_,?_,rfl⟩,?_⟩
      all_goals exact Qf
 . have HE:=HT.out
   rw[Az q_o,Gv,Bu]at HE
   have HB:Hid ((steps.drop 0).any Sch.greatP=B):=HE
   clear HT HE
   repeat' (first|refine QX ?_|refine QB ?_;intro b|with_reducible refine QZ ?_<;>(try constructor)<;>intro hb<;>try intro hb1|fail)
   refine DN (ι:=Nat) (λi A st'=>i<=steps.length/\Hid ((steps.drop i).any Sch.greatP=B)/\A.df=[]/\A.e 1=.ip [.str nm,.sl .shared SL,.sl .shared TL]/\A.e 4=.i i/\st=st') (λi=>steps.length - i) 0 ⟨Ao _,HB,Qf,Qf,Qf,rfl⟩ ?_
   clear hdf e1 e3
   rintro i A st' ⟨hi,HT,hdf,e1,e4,rfl⟩
   clear HB
   by_cases hlt:i<steps.length
   . obtain⟨s,hs⟩:=gEx hlt
     have HE:=HT.out
     rw[GM hs]at HE
     have hc:=hcp.out i s hs
     have hG:=JC s.slot.dv (hwp2.out s (Ah hs)).2.2.1.2.2
     have hol:=(hwp2.out s (Ah hs)).2.2.2
     clear HT hs
     unfold Sch.greatP at HE
     unfold maxLen at hol
     unfold Stp.cells at hc
     cases s with
     | mk kd col slot order =>
     cases slot with
     | mk snm ty rq dv =>
     dsimp only at HE hG hol
     generalize V.great dv=g at *
     cases dv with
     | mk k n sv l =>
     rw[Sl.cells_mk]at hc
     rw[V.cells_mk]at hG
     dsimp only[List.cons_append,List.nil_append]at hc
     replace hG:=Aa hG
     cases g with
     | true =>
      simp only[BQ]at HE
      subst HE
      exact WR
     | false =>
      by_cases h4:300<snm.size
      . simp only[h4,decide_true,Dk,BQ]at HE
        subst HE
        exact WR
      . by_cases h5:30<order.length
        . simp only[h5,decide_true,Dk,BQ]at HE
          subst HE
          exact WR
        . rw[decide_eq_false h4,decide_eq_false h5,aJ,aJ,Bu]at HE
          replace HE:=Aa HE
          repeat' (first|refine QX ?_|refine QB ?_;intro b|with_reducible refine QZ ?_<;>(try constructor)<;>intro hb<;>try intro hb1|fail)
          refine⟨i+1,⟨hlt,HE,?_,?_,?_,rfl⟩,?_⟩
          all_goals exact Qf
   . have HE:=HT.out
     rw[Az q_o,Gv]at HE
     subst HE
     clear HT
     exact WR
end
theorem UU{t:Tm}(hw:t.Wf)(h:Sch.great t=false):TOk t/\(∀s∈t.slots,s.dv.nodes<=1000/\s.dv.deep<=10/\s.name.size<=300/\s.Ok)/\(∀s∈t.steps,s.slot.dv.nodes<=1000/\s.slot.dv.deep<=10/\s.slot.name.size<=300/\s.slot.Ok/\s.order.length<=30)/\t.name.size<=300/\t.slots.length<=30/\t.steps.length<=30:=by
 unfold Sch.great at h
 simp only[BU,decide_eq_false_iff_not,DG,Gj]at h
 obtain⟨h1,h2,h3,h4,h5⟩:=h
 have hs:∀s∈t.slots,s.dv.nodes<=1000/\s.dv.deep<=10/\s.name.size<=300/\s.Ok:=λs hs=>by
  have:=h4 s hs
  unfold Sch.greatS at this
  rw[BU,decide_eq_false_iff_not]at this
  obtain⟨k1,k2⟩:=V.not_great this.1
  exact⟨k1,k2,by omega,hw.ss s hs⟩
 have hp:∀s∈t.steps,s.slot.dv.nodes<=1000/\s.slot.dv.deep<=10/\s.slot.name.size<=300/\s.slot.Ok/\s.order.length<=30:=λs hs=>by
  have:=h5 s hs
  unfold Sch.greatP at this
  simp only[BU,decide_eq_false_iff_not]at this
  obtain⟨k1,k2⟩:=V.not_great this.1
  exact⟨k1,k2,by omega,(hw.ps s hs).2.2.1,by omega⟩
 refine⟨⟨by omega,by omega,λs h=>(hs s h).1,λs h=>?_⟩,hs,hp,by omega,by omega,by omega⟩
 obtain⟨k1, -, -,k4,k5⟩:=hp s h
 exact⟨k1,V.Ok.bg k4.2.2,by omega⟩
section
attribute [local push_cast] Br Bl BV KU V.cells_mk V.cells_len Nat.mul_one Int.sub_zero List.map_nil beq_self_eq_true bne_self_eq_false List.head?_cons
open Go.RowKit B
namespace Reg
def great (L:List Tm):Bool:=decide (12<L.length) || L.any Sch.great
structure Kn (t:Tm):Prop where
 ok:TOk t
 q:TmQ t
 nm:t.name.size<=300
 os:∀s∈t.slots,s.dv.Ok
 ot:∀s∈t.steps,s.slot.name.size<=300/\s.slot.dv.nodes<=1000/\s.slot.dv.Ok
theorem not_great{L:List Tm}(hw:∀t∈L,t.Wf)(h:great L=false):L.length<=12/\∀t∈L,Kn t:=by
 unfold great at h
 rw[BU,decide_eq_false_iff_not,DG]at h
 refine⟨by omega,λt ht=>?_⟩
 have hg:Sch.great t=false:=by
  have:=h.2 t ht
  cases hq:Sch.great t with
  | false=>rfl
  | true=>exact absurd hq this
 obtain⟨k1,k2,k3,k4,k5,k6⟩:=UU (hw t ht) hg
 exact⟨k1,⟨by omega,by omega,λs hs=>V.Ok.bg (k2 s hs).2.2.2.2.2,λs hs=>⟨V.Ok.bg (k3 s hs).2.2.2.1.2.2,by have:=(k3 s hs).2.2.2.2;omega⟩⟩,k4,λs hs=>(k2 s hs).2.2.2.2.2,λs hs=>⟨(k3 s hs).2.2.1,(k3 s hs).1,(k3 s hs).2.2.2.1.2.2⟩⟩
end Reg
theorem bT:Fm prog 22 (λl:List Tm=>[D.sl .shared (l.map Tm.cells)]) λl=>(∀x∈l,x.Wf)/\l.length<=maxLen :=
 Dp (sz:=3) Tryz.underlying22 (by kernel_rfl) q_o fv (λ_=>rfl) λt d hd=>by
  unfold Tm.cells at hd
  simp only[Ax,AP,or_false]at hd
  rcases hd with rfl|rfl|rfl<;>rfl
theorem UB(L:List Tm)(hw:∀t∈L,t.Wf)(hl:L.length<=maxLen)(st:St):TrF prog 45 [.sl .shared (L.map Tm.cells)] st λd st'=>d=.b (Reg.great L)/\st'=st:=by
 unfold maxLen at hl
 have hm:(L.map Tm.cells).length=L.length:=Ab ..
 have hc:=hMp Tm.cells L
 have hG:=Aa λ(t:Tm) (ht:t∈L)=>UD t (hw t ht)
 unfold Reg.great
 clear hw
 generalize L.map Tm.cells=LS at *
 by_cases h12:12<L.length
 . rw[decide_eq_true h12,BQ]
   refine Qin [2] func45 results45 ntmps45 ?_
   exact WR
 . rw[decide_eq_false h12,Bu]
   obtain⟨F,hF⟩:∃F,L.any Sch.great=F:=⟨_,rfl⟩
   rw[hF]
   have HF:Hid ((L.drop 0).any Sch.great=F):=hF
   clear hF
   refine Qin [2] func45 results45 ntmps45 ?_
   repeat' (first|refine QX ?_|refine QB ?_;intro b|with_reducible refine QZ ?_<;>(try constructor)<;>intro hb<;>try intro hb1|fail)
   refine Bs (ι:=Nat) (λi A st'=>i<=L.length/\Hid ((L.drop i).any Sch.great=F)/\A.df=[]/\A.e 0=.sl .shared LS/\A.e 3=.i i/\st=st') (λi=>L.length - i) 0 ⟨Ao _,HF,Qf,Qf,Qf,rfl⟩ ?_
   rintro i A st' ⟨hi,HT,hdf,e0,e3,rfl⟩
   clear HF
   by_cases hlt:i<L.length
   . obtain⟨t,ht⟩:=gEx hlt
     have h1:=hc.out i t ht
     have HE:=HT.out
     rw[GM ht]at HE
     have hR:=hG.out t (Ah ht)
     clear HT ht
     obtain⟨G,hGG⟩:∃G,(L.drop (i+1)).any Sch.great=G:=⟨_,rfl⟩
     rw[hGG]at HE
     replace hGG:=Aa hGG
     generalize Sch.great t=q at *
     unfold Tm.cells at h1 hR
     generalize t.slots.map Sl.cells=SL at *
     generalize t.steps.map Stp.cells=TL at *
     generalize t.name=nm at *
     replace hR:=Aa hR
     cases q with
     | true =>
      rw[BQ]at HE
      subst HE
      exact WR
     | false =>
      rw[Bu]at HE
      replace HE:=Aa (hGG.out.trans HE)
      clear hGG
      repeat' (first|refine QX ?_|refine QB ?_;intro b|with_reducible refine QZ ?_<;>(try constructor)<;>intro hb<;>try intro hb1|fail)
      refine⟨i+1,st,q_u,⟨hlt,HE,?_,?_,?_,rfl⟩,by omega⟩
      all_goals exact Qf
   . have HE:=HT.out
     rw[Az q_o]at HE
     subst HE
     clear HT
     exact WR
abbrev L13:List Tm:=[mw]
end
section
attribute [local push_cast] Br Bl BV V.cells_mk V.cells_len Nat.mul_one Int.sub_zero List.map_nil beq_self_eq_true bne_self_eq_false List.head?_cons
open Go.RowKit B
def Ts.Wf (t:Ts):Prop:=t.val.Ok
def Ex.Wf (e:Ex):Prop:=e.val.Ok
def Pt.Wf (p:Pt):Prop:=(∀t∈p.tests,t.Wf)/\p.tests.length<=maxLen
def Ac.Wf (a:Ac):Prop:=(∀e∈a.vals,e.Wf)/\a.vals.length<=maxLen
structure Rl.Wf (x:Rl):Prop where
 sal : -9223372036854775808<=x.sal/\x.sal<=9223372036854775807
 ps:∀p∈x.pats,p.Wf
 pl:x.pats.length<=maxLen
 ac:∀a∈x.acts,a.Wf
 al:x.acts.length<=maxLen
theorem Ts.cells_leaf(t:Ts):∀d∈t.cells,d.leaf=true:=by
 intro d hd
 unfold Ts.cells at hd
 simp only[Ax]at hd
 rcases hd with rfl|rfl|rfl|hd
 . rfl
 . rfl
 . rfl
 . exact V.cells_leaf _ d hd
theorem Ex.cells_leaf(t:Ex):∀d∈t.cells,d.leaf=true:=by
 intro d hd
 unfold Ex.cells at hd
 simp only[Ax]at hd
 rcases hd with rfl|rfl|hd
 . rfl
 . rfl
 . exact V.cells_leaf _ d hd
theorem fu:Fm prog 76 Ts.cells Ts.Wf:=by
 intro n H enc W fuel cs x hf h
 obtain⟨xs,m,rfl, -,hl,hn,hx⟩:=Cy Tryz.underlying76 h
 have hl7:cs.length=7:=hl.trans (by kernel_rfl)
 obtain⟨a,a1,a2⟩:=AZ (i:=0) (n:=m) (f:=λa:Int=>[D.i a]) hx hn rfl (k:=1) (by kernel_rfl) (Cw (k:=.i64) Tryz.underlying3 _) (Ap _)
 obtain⟨b,b1,b2⟩:=AZ (i:=1) (n:=m) (f:=λa:Int=>[D.i a]) hx hn rfl (k:=1) (by kernel_rfl) (Cw (k:=.i64) Tryz.underlying3 _) (Ap _)
 obtain⟨c,c1,c2⟩:=AZ (i:=2) (n:=m) (f:=λa:Int=>[D.i a]) hx hn rfl (k:=1) (by kernel_rfl) (Cw (k:=.i64) Tryz.underlying3 _) (Ap _)
 obtain⟨d,d1,d2⟩:=AZ (i:=3) (n:=m) (f:=V.cells) hx hn rfl (k:=4) (by kernel_rfl) (Pd _) (Ap _)
 refine⟨⟨a,b,c,d⟩,?_,d2⟩
 have:=RepL.glue a1 (RepL.glue b1 (RepL.glue c1 (RepL.glue d1 (RepL.glue_end hl7))))
 rw[AY]at this
 exact this
theorem fC:Fm prog 141 Ex.cells Ex.Wf:=by
 intro n H enc W fuel cs x hf h
 obtain⟨xs,m,rfl, -,hl,hn,hx⟩:=Cy Tryz.underlying141 h
 have hl6:cs.length=6:=hl.trans (by kernel_rfl)
 obtain⟨a,a1,a2⟩:=AZ (i:=0) (n:=m) (f:=λa:Bool=>[D.b a]) hx hn rfl (k:=1) (by kernel_rfl) (LY Tryz.underlying4 _) (Ap _)
 obtain⟨b,b1,b2⟩:=AZ (i:=1) (n:=m) (f:=λa:Int=>[D.i a]) hx hn rfl (k:=1) (by kernel_rfl) (Cw (k:=.i64) Tryz.underlying3 _) (Ap _)
 obtain⟨d,d1,d2⟩:=AZ (i:=2) (n:=m) (f:=V.cells) hx hn rfl (k:=4) (by kernel_rfl) (Pd _) (Ap _)
 refine⟨⟨a,b,d⟩,?_,d2⟩
 have:=RepL.glue a1 (RepL.glue b1 (RepL.glue d1 (RepL.glue_end hl6)))
 rw[AY]at this
 exact this
theorem fy:Fm prog 39 Pt.cells Pt.Wf:=by
 intro n H enc W fuel cs x hf h
 obtain⟨xs,m,rfl, -,hl,hn,hx⟩:=Cy Tryz.underlying39 h
 have hl3:cs.length=3:=hl.trans (by kernel_rfl)
 obtain⟨a,a1,a2⟩:=AZ (i:=0) (n:=m) (f:=λa:Int=>[D.i a]) hx hn rfl (k:=1) (by kernel_rfl) (Cw (k:=.i64) Tryz.underlying3 _) (Ap _)
 obtain⟨b,b1,b2⟩:=AZ (i:=1) (n:=m) (f:=λa:Bool=>[D.b a]) hx hn rfl (k:=1) (by kernel_rfl) (LY Tryz.underlying4 _) (Ap _)
 obtain⟨c,c1,c2,c3⟩:=AZ (i:=2) (n:=m) (f:=λl:List Ts=>[D.sl .shared (l.map Ts.cells)]) hx hn rfl (k:=1) (by kernel_rfl) (Dp (sz:=7) Tryz.underlying37 (by kernel_rfl) q_o fu Ts.cells_len Ts.cells_leaf _) (Ap _)
 refine⟨⟨a,b,c⟩,?_,c2,c3⟩
 exact RepL.glue a1 (RepL.glue b1 (RepL.glue c1 (RepL.glue_end hl3)))
theorem fE:Fm prog 139 Ac.cells Ac.Wf:=by
 intro n H enc W fuel cs x hf h
 obtain⟨xs,m,rfl, -,hl,hn,hx⟩:=Cy Tryz.underlying139 h
 have hl5:cs.length=5:=hl.trans (by kernel_rfl)
 obtain⟨a,a1,a2⟩:=AZ (i:=0) (n:=m) (f:=λa:Int=>[D.i a]) hx hn rfl (k:=1) (by kernel_rfl) (Cw (k:=.i64) Tryz.underlying3 _) (Ap _)
 obtain⟨b,b1,b2⟩:=AZ (i:=1) (n:=m) (f:=λa:Int=>[D.i a]) hx hn rfl (k:=1) (by kernel_rfl) (Cw (k:=.i64) Tryz.underlying3 _) (Ap _)
 obtain⟨c,c1,c2⟩:=AZ (i:=2) (n:=m) (f:=λa:Int=>[D.i a]) hx hn rfl (k:=1) (by kernel_rfl) (Cw (k:=.i64) Tryz.underlying3 _) (Ap _)
 obtain⟨d,d1,d2⟩:=AZ (i:=3) (n:=m) (f:=λa:Int=>[D.i a]) hx hn rfl (k:=1) (by kernel_rfl) (Cw (k:=.i64) Tryz.underlying3 _) (Ap _)
 obtain⟨e,e1,e2,e3⟩:=AZ (i:=4) (n:=m) (f:=λl:List Ex=>[D.sl .shared (l.map Ex.cells)]) hx hn rfl (k:=1) (by kernel_rfl) (Dp (sz:=6) Tryz.underlying137 (by kernel_rfl) q_o fC Ex.cells_len Ex.cells_leaf _) (Ap _)
 refine⟨⟨a,b,c,d,e⟩,?_,e2,e3⟩
 exact RepL.glue a1 (RepL.glue b1 (RepL.glue c1 (RepL.glue d1 (RepL.glue e1 (RepL.glue_end hl5)))))
theorem fx:Fm prog 34 Rl.cells Rl.Wf:=by
 intro n H enc W fuel cs x hf h
 obtain⟨xs,m,rfl, -,hl,hn,hx⟩:=Cy Tryz.underlying34 h
 have hl4:cs.length=4:=hl.trans (by kernel_rfl)
 obtain⟨a,a1,a2⟩:=AZ (i:=0) (n:=m) (f:=λa:ByteArray=>[D.str a]) hx hn rfl (k:=1) (by kernel_rfl) (Im Tryz.underlying9 _) (Ap _)
 obtain⟨b,b1,b2⟩:=AZ (i:=1) (n:=m) (f:=λa:Int=>[D.i a]) hx hn rfl (k:=1) (by kernel_rfl) (Cw (k:=.i64) Tryz.underlying3 _) (Ap _)
 obtain⟨c,c1,c2,c3⟩:=AZ (i:=2) (n:=m) (f:=λl:List Pt=>[D.sl .shared (l.map Pt.cells)]) hx hn rfl (k:=1) (by kernel_rfl) (Dp (sz:=3) Tryz.underlying31 (by kernel_rfl) q_o fy (λ_=>rfl) (λt d hd=>by
  unfold Pt.cells at hd
  simp only[Ax,AP,or_false]at hd
  rcases hd with rfl|rfl|rfl<;>rfl) _) (Ap _)
 obtain⟨e,e1,e2,e3⟩:=AZ (i:=3) (n:=m) (f:=λl:List Ac=>[D.sl .shared (l.map Ac.cells)]) hx hn rfl (k:=1) (by kernel_rfl) (Dp (sz:=5) Tryz.underlying32 (by kernel_rfl) q_o fE (λ_=>rfl) (λt d hd=>by
  unfold Ac.cells at hd
  simp only[Ax,AP,or_false]at hd
  rcases hd with rfl|rfl|rfl|rfl|rfl<;>rfl) _) (Ap _)
 refine⟨⟨a,b,c,e⟩,?_,EM b2,c2,c3,e2,e3⟩
 exact RepL.glue a1 (RepL.glue b1 (RepL.glue c1 (RepL.glue e1 (RepL.glue_end hl4))))
theorem bW:Fm prog 23 (λl:List Rl=>[D.sl .shared (l.map Rl.cells)]) λl=>(∀x∈l,x.Wf)/\l.length<=maxLen :=
 Dp (sz:=4) Tryz.underlying23 (by kernel_rfl) q_o fx (λ_=>rfl) λt d hd=>by
  unfold Rl.cells at hd
  simp only[Ax,AP,or_false]at hd
  rcases hd with rfl|rfl|rfl|rfl<;>rfl
namespace Rul
def gT (t:Ts):Bool:=t.val.great
def gE (e:Ex):Bool:=e.val.great
def gP (p:Pt):Bool:=decide (10<p.tests.length) || p.tests.any gT
def gA (a:Ac):Bool:=decide (20<a.vals.length) || a.vals.any gE
def gR (x:Rl):Bool:=decide (300<x.name.size) || (decide (8<x.pats.length) || (decide (8<x.acts.length) || (x.pats.any gP || x.acts.any gA)))
def great (R:List Rl):Bool:=decide (12<R.length) || R.any gR
theorem not_great{R:List Rl}(hw:∀x∈R,x.Wf)(h:great R=false):R.length<=12/\∀x∈R,RK x:=by
 unfold great at h
 simp only[BU,decide_eq_false_iff_not,DG,Gj]at h
 refine⟨by omega,λx hx=>?_⟩
 have h2:=h.2 x hx
 unfold gR at h2
 simp only[BU,decide_eq_false_iff_not,DG,Gj]at h2
 obtain⟨k1,k2,k3,k4,k5⟩:=h2
 have hv:∀v:V,v.Ok->v.great=false->VQ v:=λv h1 h2=>by
  obtain⟨a,b⟩:=V.not_great h2
  exact⟨h1,a,by omega⟩
 have hp:∀p∈x.pats,p.tests.length<=10/\∀t∈p.tests,VQ t.val:=λp hp=>by
  have:=k4 p hp
  unfold gP at this
  simp only[BU,decide_eq_false_iff_not,DG,Gj]at this
  exact⟨by omega,λt ht=>hv _ ((hw x hx).ps p hp |>.1 t ht) (this.2 t ht)⟩
 have ha:∀a∈x.acts,a.vals.length<=20/\∀e∈a.vals,VQ e.val:=λa ha=>by
  have:=k5 a ha
  unfold gA at this
  simp only[BU,decide_eq_false_iff_not,DG,Gj]at this
  exact⟨by omega,λt ht=>hv _ ((hw x hx).ac a ha |>.1 t ht) (this.2 t ht)⟩
 exact⟨by omega,by omega,by omega,λp h=>by have:=(hp p h).1;omega,λa h=>by have:=(ha a h).1;omega,λp h=>(hp p h).2,λa h=>(ha a h).2⟩
end Rul
end
structure Fc.Wf (f:Fc):Prop where
 id : -9223372036854775808<=f.id/\f.id<=9223372036854775807
 v:∀x∈f.s,x.Ok
 l:f.s.length<=maxLen
structure Mt.Wf (m:Mt):Prop where
 r : -9223372036854775808<=m.rule/\m.rule<=9223372036854775807
 i:∀x∈m.ids, -9223372036854775808<=x/\x<=9223372036854775807
 l:m.ids.length<=maxLen
theorem bX:Fm prog 41 (λr:Int×List V=>[D.i r.1,.sl .shared (r.2.map V.cells)]) λr=>(∀x∈r.2,x.Ok)/\r.2.length<=maxLen:=by
 intro n H enc W fuel cs x hf h
 obtain⟨xs,m,rfl, -,hl,hn,hx⟩:=Cy Tryz.underlying41 h
 have hl2:cs.length=2:=hl.trans (by kernel_rfl)
 obtain⟨a,a1,a2⟩:=AZ (i:=0) (n:=m) (f:=λa:Int=>[D.i a]) hx hn rfl (k:=1) (by kernel_rfl) (Cw (k:=.i64) Tryz.underlying3 _) (Ap _)
 obtain⟨b,b1,b2,b3⟩:=AZ (i:=1) (n:=m) (f:=λl:List V=>[D.sl .shared (l.map V.cells)]) hx hn rfl (k:=1) (by kernel_rfl) (ft _) (Ap _)
 exact⟨⟨a,b⟩,RepL.glue a1 (RepL.glue b1 (RepL.glue_end hl2)),b2,b3⟩
theorem fB:Fm prog 43 Fc.cells Fc.Wf:=by
 intro n H enc W fuel cs x hf h
 obtain⟨xs,m,rfl, -,hl,hn,hx⟩:=Cy Tryz.underlying43 h
 have hl5:cs.length=5:=hl.trans (by kernel_rfl)
 obtain⟨a,a1,a2⟩:=AZ (i:=0) (n:=m) (f:=λa:Int=>[D.i a]) hx hn rfl (k:=1) (by kernel_rfl) (Cw (k:=.i64) Tryz.underlying3 _) (Ap _)
 obtain⟨b,b1,b2⟩:=AZ (i:=1) (n:=m) (f:=λa:Int=>[D.i a]) hx hn rfl (k:=1) (by kernel_rfl) (Cw (k:=.i64) Tryz.underlying3 _) (Ap _)
 obtain⟨c,c1,c2⟩:=AZ (i:=2) (n:=m) (f:=λa:Int=>[D.i a]) hx hn rfl (k:=1) (by kernel_rfl) (Cw (k:=.i64) Tryz.underlying3 _) (Ap _)
 obtain⟨⟨d,e⟩,d1,d2,d3⟩:=AZ (i:=3) (n:=m) (f:=λr:Int×List V=>[D.i r.1,.sl .shared (r.2.map V.cells)]) hx hn rfl (k:=2) (by kernel_rfl) (bX _) (Ap _)
 refine⟨⟨a,b,c,d,e⟩,?_,EM a2,d2,d3⟩
 have:=RepL.glue a1 (RepL.glue b1 (RepL.glue c1 (RepL.glue d1 (RepL.glue_end hl5))))
 rw[AY]at this
 exact this
theorem fz:Fm prog 52 Mt.cells Mt.Wf:=by
 intro n H enc W fuel cs x hf h
 obtain⟨xs,m,rfl, -,hl,hn,hx⟩:=Cy Tryz.underlying52 h
 have hl2:cs.length=2:=hl.trans (by kernel_rfl)
 obtain⟨a,a1,a2⟩:=AZ (i:=0) (n:=m) (f:=λa:Int=>[D.i a]) hx hn rfl (k:=1) (by kernel_rfl) (Cw (k:=.i64) Tryz.underlying3 _) (Ap _)
 obtain⟨b,b1,b2,b3⟩:=AZ (i:=1) (n:=m) (f:=λl:List Int=>[D.sl .shared (l.map Bl)]) hx hn rfl (k:=1) (by kernel_rfl) (Dp (sz:=1) Tryz.underlying50 (by kernel_rfl) q_o (Cw (k:=.i64) Tryz.underlying3) (λ_=>rfl) (λ_ d hd=>by
  rw[show∀x:Int,[D.s (.int .i64 x)]=[D.i x] fromλ_=>rfl,AB]at hd
  subst hd
  rfl) _) (Ap _)
 exact⟨⟨a,b⟩,RepL.glue a1 (RepL.glue b1 (RepL.glue_end hl2)),EM a2,λx hx=>EM (b2 x hx),b3⟩
theorem AllRaw.rest{f:FuncId}{args:List D}{L:List Mt}{st:St}(h:TrF prog f args st (AllRaw L st)):TrF prog f args st λd st'=>d=.sl .shared ((Mat.sortM L).map Mt.cells)/\st'=st:=by
 intro vs w h1 h2
 refine(h vs w h1 h2).mono λ_ w' ⟨v,ev,d,s,k1,k2,k3,hA⟩=>?_
 rcases hA with⟨rfl,rfl,rfl⟩|⟨hne,g,cap,zs,rfl,rfl⟩
 . exact⟨v,ev,_,s,LE.sl _ _ _ _ _ k1,k2,k3,rfl,rfl⟩
 . have he:=Ext.drop (st:=.box g 52 (DS (Mat.sortM L)++zs)::st) (st':=st) (λ_ h=>Ae _ h) w'
   exact⟨v,ev,_,st,KB k2 (sz:=2) (by decide) (Np _) (by rw[Ab];exact(Mat.sortM_srt L).2.length_eq) v k1,k2.sub (AK _ _),k3.trans he,rfl,rfl⟩
namespace Mat
def slotN (L:List Tm):List Int:=(List.range L.length).map λi:Nat=>((Rul.slots L (i:Int)).length:Int)
theorem slotN_len(L:List Tm):(slotN L).length=L.length:=by unfold slotN;rw[Ab,Nk]
def may (L:List Tm)(R:List Rl)(F:List Fc):Bool:=!(Reg.great L || Rul.great R) && (Rul.right L R && (decide (F.length<=7) && (!(F.any λf=>f.s.any V.great) && right (slotN L) F)))
structure May (L:List Tm)(R:List Rl)(F:List Fc):Prop where
 rl:R.length<=8
 rn:∀x∈R,1<=x.pats.length/\x.pats.length<=4
 xk:∀x∈R,XK x
 fl:F.length<=7
 fk:FKs F
 fr:∀f∈F,FcR f
 nd:(F.map Fc.id).Nodup
theorem Ze{S:List Int}{F:List Fc}(h:right S F=true):(F.map Fc.id).Nodup/\∀f∈F,headB S f=true:=by
 unfold right at h
 rw[AF]at h
 have key:∀(l:List Fc) (i:Nat),F.drop i=l->rightL S F l i=true->(l.map Fc.id).Nodup/\(∀f∈l,f.id∉(F.take i).map Fc.id)/\∀f∈l,headB S f=true:=by
  intro l
  induction l with
  | nil=>exactλ_ _ _=>⟨CA,List.forall_mem_nil _,List.forall_mem_nil _⟩
  | cons f l ih =>
   intro i hd hr
   rw[rightL]at hr
   simp only[AF,Cs]at hr
   obtain⟨h1, -,h2,h3⟩:=hr
   have hd2:F.drop (i+1)=l:=by rw[<-CY,hd];rfl
   have hfi:F[i]?=some f:=by
    have:=congrArg (λl=>l[0]?) hd
    simpa using this
   obtain⟨k1,k2,k3⟩:=ih (i+1) hd2 h3
   have ht:F.take (i+1)=F.take i++[f]:=by rw[Bk,hfi];rfl
   refine⟨?_,?_,?_⟩
   . rw[Au,Bb]
     refine⟨λhm=>?_,k1⟩
     obtain⟨g,hg,e⟩:=Av.1 hm
     refine k2 g hg ?_
     rw[ht,e,Bi]
     exact Bh _ (AB.2 rfl)
   . intro g hg hm
     rcases Ax.1 hg with rfl|hg
     . obtain⟨y,hy,e⟩:=Av.1 hm
       have:=DG.1 h2 y hy
       exact this (beq_iff_eq.2 e)
     . refine k2 g hg ?_
       rw[ht,Bi]
       exact Bp _ hm
   . intro g hg
     rcases Ax.1 hg with rfl|hg
     . exact h1
     . exact k3 g hg
 obtain⟨k1, -,k3⟩:=key F 0 rfl h.2
 exact⟨k1,k3⟩
theorem passL_len(p:Pt)(F:List Fc)(env:List V):(passL p F env).length<=F.length:=NV ..
theorem from_length(F:List Fc):∀(ps:List Pt) (ids:List Int) (env:List V),(from_ F ps ids env).length<=(F.length+1) ^ ps.length
|[],ids,env=>by rw[from_];exact Ap _
|p::ps,ids,env=>by
  rw[from_,An,Qe]
  split
  . split
    . have:=from_length F ps ids env
      refine Cp this (Nat.le_mul_of_pos_right _ (nM _))
    . exact Ao _
  . have hp:=passL_len p F env
    rw[List.length_flatMap]
    have h1:∀l:List (Int×List V),(l.map λx=>(from_ F ps (ids++[x.1]) x.2).length).sum<=l.length*(F.length+1) ^ ps.length:=λl=>by
     induction l with
     | nil=>exact Ao _
     | cons x l ih =>
      rw[Au,List.sum_cons,An,Cr]
      have:=from_length F ps (ids++[x.1]) x.2
      omega
    refine Cp (h1 _) ?_
    rw[Qg]
    exact Nat.mul_le_mul_left _ q_o
theorem raws_le{R:List Rl}{F:List Fc}(hr:R.length<=8)(hp:∀x∈R,x.pats.length<=4)(hf:F.length<=7):(raws R F).length<=1000000:=by
 have h1:∀(l:List Rl) (i:Int),(∀x∈l,x.pats.length<=4)->(flatR (λx=>(mats x F).map Prod.fst) l i).length<=l.length*4096:=by
  intro l
  induction l with
  | nil=>exactλ_ _=>Ao _
  | cons x l ih =>
   intro i hl
   rw[flatR,Ad,Ab,Ab,An,Cr]
   have a:=ih (i+1) λy hy=>hl y (Ae _ hy)
   have b:(mats x F).length<=(F.length+1) ^ x.pats.length:=from_length F x.pats [] empty
   have c:(F.length+1) ^ x.pats.length<=8 ^ 4:=Cp (Nat.pow_le_pow_left q_o _) (DW (by decide) (hl x (Ag ..)))
   have d:(8:Nat) ^ 4=4096:=by decide
   omega
 have:=h1 R 0 hp
 unfold raws
 omega
end Mat
end Go.Proofs.YtoeidpmjifjplaaGreat
