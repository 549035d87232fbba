/- Texts put together. No statement is proved here. -/
import Derived.Test.YtoeidpmjifjplaaGreatZ10
set_option linter.all false
set_option maxRecDepth 10000
set_option maxHeartbeats 8000000
namespace Go.Proofs.YtoeidpmjifjplaaGreat
open Go.RowKit
section
theorem LA{k:Nat}(h:4≤k):Hz k:=fun S t X id env hS _ _ _ _ hk=>absurd hS.nl q_o
theorem LC:∀n k,k+n=4→Hz k
|0,k,h=>LA q_o
|n+1,k,h=>Ys k (Wl (k+1) fun _ _=>LC n (k+1) q_o)
theorem ME(k:Nat):Hz k:=by
 by_cases h:4≤k
 · exact LA h
 · exact LC (4 - k) k q_o
theorem ak(k:Nat):Qm k:=Wl k fun _ _=>ME k
namespace Nt
variable {S S':NC} {E X:List Nat} {t u v p:Tok} {H0 H1:List Tok}
theorem swapL_mem{α:Type}{K:List α}{i n:Nat}{k z:α}(hnd:K.Nodup)(hn:K.length=n+1)(hi:K[i]?=some k)(hz:K[n]?=some z):(Ax K i z).Nodup∧∀b,b∈Ax K i z↔b∈K∧b≠k:=by
 have hin:=(List.getElem?_eq_some_iff.1 hi).1
 have hnn:=(List.getElem?_eq_some_iff.1 hz).1
 have hzl:K[K.length - 1]?=some z:=by rw[hn,Nat.add_sub_cancel];exact hz
 have hat:=Ey hin hzl
 have inj:∀{a b:Nat} {y:α},K[a]?=some y→K[b]?=some y→a=b:=fun {a b y} ha hb=>(List.getElem?_inj (List.getElem?_eq_some_iff.1 ha).1 hnd).1 (ha.trans hb.symm)
 have hlen:=Ew (K:=K) (i:=i) (z:=z) hn
 constructor
 · refine List.pairwise_iff_getElem.2 fun a b ha hb hab e=>?_
   have h1:(Ax K i z)[a]?=(Ax K i z)[b]?:=by rw[List.getElem?_eq_getElem ha,List.getElem?_eq_getElem hb,e]
   rw[hlen] at ha hb
   have ea:(Ax K i z)[a]?=if a=i then some z else K[a]?:=by rw[hat,if_pos q_o]
   have eb:(Ax K i z)[b]?=if b=i then some z else K[b]?:=by rw[hat,if_pos q_o]
   rw[ea,eb] at h1
   by_cases e1:a=i
   · rw[if_pos e1,if_neg q_o] at h1
     have:=inj hz h1.symm
     omega
   · rw[if_neg e1] at h1
     by_cases e2:b=i
     · rw[if_pos e2] at h1
       have:=inj h1 hz
       omega
     · rw[if_neg e2] at h1
       have:=(List.getElem?_inj q_o hnd).1 h1
       omega
 · intro b
   constructor
   · intro hb
     obtain⟨a,ha⟩:=List.getElem?_of_mem hb
     rw[hat] at ha
     split at ha
     · rename_i hlt
       split at ha
       · rename_i e
         cases ha
         refine⟨List.mem_of_getElem? hz,fun e2=>?_⟩
         subst e2
         have:=inj hz hi
         omega
       · rename_i e
         refine⟨List.mem_of_getElem? ha,fun e2=>?_⟩
         subst e2
         exact e (inj ha hi)
     · cases ha
   · rintro⟨hb,hne⟩
     obtain⟨a,ha⟩:=List.getElem?_of_mem hb
     have hal:=(List.getElem?_eq_some_iff.1 ha).1
     have hai:a≠i:=fun e=>by
      subst e
      rw[hi] at ha
      exact hne (Option.some.inj ha).symm
     by_cases e:a=n
     · subst e
       rw[hz] at ha
       cases ha
       refine List.mem_of_getElem? (i:=i) ?_
       rw[hat,if_pos q_o,if_pos rfl]
     · refine List.mem_of_getElem? (i:=a) ?_
       rw[hat,if_pos q_o,if_neg hai]
       exact ha
def setT (S:NC)(k:Nat)(x:Nd)(ts:List Nat)(M:MemP):NC:={S with ns:=S.ns.set k {x with ts:=ts,tm:=M} }
theorem kept_setT{k:Nat}{x:Nd}{ts:List Nat}{M:MemP}(hx:S.ns[k]?=some x):Kept S (setT S k x ts M):=by
 refine⟨rfl,rfl,rfl,rfl,List.length_set ..,fun i y hy=>?_⟩
 by_cases e:i=k
 · subst e
   rw[hx] at hy
   cases hy
   exact⟨_,List.getElem?_set_self (List.getElem?_eq_some_iff.1 hx).1,rfl,rfl⟩
 · exact⟨y,by show(S.ns.set k _)[i]?=_;rw[List.getElem?_set_ne (fun e1=>e e1.symm)];exact hy,rfl,rfl⟩
theorem Str.dropT(h:Str S [])(hu:u∈S.H){k:Nat}{x:Nd}{M:MemP}{ts:List Nat}(hk:u.anc.length=k+1)(hx:S.ns[k]?=some x)(hnd:ts.Nodup)(hts:∀b,b∈ts↔b∈x.ts∧b≠u.b)(hM:M.okT ts):Str (setT S k x ts M) [u.b]:=by
 have hxm:=List.mem_of_getElem? hx
 refine⟨h.ne,h.nd,h.up,h.rt,h.kn,h.km,h.kl,fun w hw=>?_,fun i y hy=>?_,fun i y hy b=>?_,h.okt,fun y hy=>?_,?_,?_,h.ek,fun y hy=>?_,h.ct,h.rx⟩
 · show _≤(S.ns.set k _).length
   rw[List.length_set];exact h.lv w hw
 · rcases Ed hx hy with⟨-,rfl⟩|⟨-,hy⟩
   · exact hnd
   · exact h.tn i y hy
 · show b∈y.ts↔∃u∈S.H,_
   rcases Ed hx hy with⟨rfl,rfl⟩|⟨hi,hy⟩
   · show b∈ts↔_
     rw[hts,h.tm _ x hx b]
     constructor
     · rintro⟨⟨w,hw,e1,e2, -⟩,hne⟩
       exact⟨w,hw,e1,e2,fun hb=>hne (List.mem_singleton.1 hb)⟩
     · rintro⟨w,hw,e1,e2,e3⟩
       exact⟨⟨w,hw,e1,e2,List.not_mem_nil⟩,fun e=>e3 (List.mem_singleton.2 e)⟩
   · rw[h.tm i y hy b]
     constructor
     · rintro⟨w,hw,e1,e2, -⟩
       refine⟨w,hw,e1,e2,fun hb=>?_⟩
       rw[List.mem_singleton] at hb
       have:=h.same hw hu (e1.trans hb)
       rw[this,hk] at e2
       omega
     · rintro⟨w,hw,e1,e2, -⟩;exact⟨w,hw,e1,e2,List.not_mem_nil⟩
 · rcases List.getElem?_of_mem hy with⟨i,hi⟩
   rcases Ed hx hi with⟨-,rfl⟩|⟨-,hi⟩
   · exact⟨(h.okx x hxm).1,hM⟩
   · exact h.okx y (List.mem_of_getElem? hi)
 · show(Az (S.ns.set k _)++S.zs).length=_
   rw[List.length_append,AZ,List.length_set,←AZ,←List.length_append]
   exact h.row
 · show(S.ns.set k _).length≤5
   rw[List.length_set];exact h.nl
 · rcases List.getElem?_of_mem hy with⟨i,hi⟩
   rcases Ed hx hi with⟨-,rfl⟩|⟨-,hi⟩
   · exact h.pk x hxm
   · exact h.pk y (List.mem_of_getElem? hi)
def withKids (p:Tok)(ks:List Nat)(M:MemP):Tok:={p with kids:=ks,km:=M}
def dropKid (S:NC)(H1:List Tok)(p:Tok)(ks:List Nat)(M:MemP):NC:={S with H:=withKids p ks M::H1}
theorem Str.dropKid(h:Str S [u.b])(hp:S.H.Perm (u::p::H1))(hup:u.anc.tail=p.anc)(hno:u.kids=[]){ks:List Nat}{M:MemP}(hnd:ks.Nodup)(hks:∀b,b∈ks↔b∈p.kids∧b≠u.b)(hl:ks.length≤1000)(hM:M.okT ks):Str (Nt.dropKid S H1 p ks M) []:=by
 have hm:∀w,w∈S.H↔w=u∨w=p∨w∈H1:=fun w=>by rw[hp.mem_iff,List.mem_cons,List.mem_cons]
 have hu:=(hm u).2 (.inl rfl)
 have hpm:=(hm p).2 (.inr (.inl rfl))
 have h1:∀w∈H1,w∈S.H:=fun w hw=>(hm w).2 (.inr (.inr hw))
 have hndS:=(hp.map Tok.b).nodup_iff.1 h.nd
 rw[List.map_cons,List.nodup_cons] at hndS
 have hub:∀w∈S.H,w.b=u.b→w=u:=fun w hw e=>h.same hw hu e
 have nou:∀w∈(Nt.dropKid S H1 p ks M).H,∃w0∈S.H,w.anc=w0.anc∧w.env=w0.env∧w.count=w0.count∧w0≠u∧(w=w0∨w=withKids p ks M∧w0=p):=fun w hw=>by
  rcases List.mem_cons.1 hw with rfl|hw
  · exact⟨p,hpm,rfl,rfl,rfl,fun e=>hndS.1 (by rw[←e];exact List.mem_cons_self ..),.inr ⟨rfl,rfl⟩⟩
  · refine⟨w,h1 w hw,rfl,rfl,rfl,fun e=>hndS.1 ?_,.inl rfl⟩
    rw[←e]
    exact List.mem_cons_of_mem _ (List.mem_map_of_mem hw)
 have old:∀w∈S.H,w≠u→∃w'∈(Nt.dropKid S H1 p ks M).H,w'.anc=w.anc∧w'.b=w.b:=fun w hw hne=>by
  rcases(hm w).1 hw with rfl|rfl|hw
  · exact absurd rfl hne
  · exact⟨_,List.mem_cons_self ..,rfl,rfl⟩
  · exact⟨w,List.mem_cons_of_mem _ hw,rfl,rfl⟩
 have nokid:∀w∈S.H,w.anc.tail≠u.anc:=fun w hw e=>by
  have:=(h.km u hu w.b).2 ⟨w,hw,rfl,e⟩
  rw[hno] at this
  cases this
 constructor
 · intro w hw
   obtain⟨w0,k1,k2, -⟩:=nou w hw
   rw[k2];exact h.ne w0 k1
 · exact hndS.2
 · intro w hw hne
   obtain⟨w0,k1,k2, -⟩:=nou w hw
   rw[k2] at hne ⊢
   obtain⟨q,q1,q2⟩:=h.up w0 k1 hne
   obtain⟨q',r1,r2, -⟩:=old q q1 (fun e=>by rw[e] at q2;exact nokid w0 k1 q2)
   exact⟨q',r1,q2.trans r2.symm⟩
 · intro w hw v hv e1 e2
   obtain⟨w0,k1,k2, -⟩:=nou w hw
   obtain⟨v0,q1,q2, -⟩:=nou v hv
   rw[b_of k2,b_of q2]
   exact h.rt w0 k1 v0 q1 (by rw[←k2];exact e1) (by rw[←q2];exact e2)
 · intro w hw
   obtain⟨w0,k1, -, -, -, -,rfl|⟨rfl, -⟩⟩:=nou w hw
   · exact h.kn w k1
   · exact hnd
 · intro w hw b
   have key:(∃y∈(Nt.dropKid S H1 p ks M).H,y.b=b∧y.anc.tail=w.anc)↔b≠u.b∧∃y∈S.H,y.b=b∧y.anc.tail=w.anc:=by
    constructor
    · rintro⟨y,y1,y2,y3⟩
      obtain⟨y0,r1,r2, -, -,r3, -⟩:=nou y y1
      refine⟨fun e=>r3 (hub y0 r1 ((b_of r2).symm.trans (y2.trans e))),y0,r1,(b_of r2).symm.trans y2,by rw[←r2];exact y3⟩
    · rintro⟨hne,y,y1,y2,y3⟩
      obtain⟨y',r1,r2,r3⟩:=old y y1 (fun e=>hne (by rw[←y2,e]))
      exact⟨y',r1,r3.trans y2,by rw[r2];exact y3⟩
   rw[key]
   obtain⟨w0,k1,k2, -, -,k3,k4⟩:=nou w hw
   rcases k4 with rfl|⟨rfl,rfl⟩
   · rw[h.km w k1 b]
     constructor
     · rintro⟨y,y1,y2,y3⟩
       refine⟨fun e=>?_,y,y1,y2,y3⟩
       have:=hub y y1 (y2.trans e)
       rw[this,hup] at y3
       have hwp:w=p:=h.anc_b k1 hpm y3.symm
       rcases List.mem_cons.1 hw with e4|hw1
       · have:p.kids=ks:=by rw[←hwp];exact(congrArg Tok.kids e4)
         have hb:u.b∈p.kids:=(h.km p hpm u.b).2 ⟨u,hu,rfl,hup⟩
         rw[this] at hb
         exact((hks _).1 hb).2 rfl
       · rw[hwp] at hw1
         rw[List.map_cons,List.nodup_cons] at hndS
         exact hndS.2.1 (List.mem_map_of_mem hw1)
     · rintro⟨-,h2⟩;exact h2
   · show b∈ks↔_
     rw[hks,h.km w0 hpm b]
     exact and_comm
 · intro w hw
   obtain⟨w0,k1, -, -, -, -,rfl|⟨rfl, -⟩⟩:=nou w hw
   · exact h.kl w k1
   · exact hl
 · intro w hw
   obtain⟨w0,k1,k2, -⟩:=nou w hw
   rw[k2];exact h.lv w0 k1
 · exact h.tn
 · intro k x hx b
   rw[h.tm k x hx b]
   constructor
   · rintro⟨y,y1,y2,y3,y4⟩
     obtain⟨y',r1,r2,r3⟩:=old y y1 (fun e=>y4 (by rw[←y2,e];exact List.mem_singleton.2 rfl))
     exact⟨y',r1,r3.trans y2,by rw[r2];exact y3,List.not_mem_nil⟩
   · rintro⟨y,y1,y2,y3, -⟩
     obtain⟨y0,r1,r2, -, -,r3, -⟩:=nou y y1
     exact⟨y0,r1,(b_of r2).symm.trans y2,by rw[←r2];exact y3,fun hb=>r3 (hub y0 r1 ((b_of r2).symm.trans (y2.trans (List.mem_singleton.1 hb))))⟩
 · intro w hw
   obtain⟨w0,k1, -, -, -, -,rfl|⟨rfl, -⟩⟩:=nou w hw
   · exact h.okt w k1
   · exact hM
 · exact h.okx
 · exact h.row
 · exact h.nl
 · intro w hw
   obtain⟨w0,k1, -,k2, -⟩:=nou w hw
   rw[k2];exact h.ek w0 k1
 · exact h.pk
 · intro w hw
   obtain⟨w0,k1, -, -,k2, -⟩:=nou w hw
   rw[k2];exact h.ct w0 k1
 · obtain⟨r,q1,q2,q3,q4⟩:=h.rx
   rcases(hm r).1 q1 with rfl|rfl|q1
   · have e:=congrArg List.length hup
     rw[List.length_tail,q2] at e
     exact absurd (List.eq_nil_of_length_eq_zero e.symm) (h.ne p hpm)
   · exact⟨_,List.mem_cons_self ..,q2,q3,q4⟩
   · exact⟨r,List.mem_cons_of_mem _ q1,q2,q3,q4⟩
end Nt
end
theorem ZN(A B C:St):(A++(B++C)).Perm (B++(A++C)):=by
 rw[←List.append_assoc,←List.append_assoc]
 exact List.perm_append_comm.append_right _
theorem VR{K:List Nat}{b:Nat}(h:b∈K):∃(i n z:Nat),K.length=n+1∧K[i]?=some b∧K[n]?=some z:=by
 obtain⟨i,hi⟩:=List.getElem?_of_mem h
 have hl:=(List.getElem?_eq_some_iff.1 hi).1
 exact⟨i,K.length - 1,K[K.length - 1]'(by omega),by omega,hi,List.getElem?_eq_getElem q_o⟩
theorem ZW(S:NC)(u:Tok)(k:Nat)(x:Nd)(hS:Nt.Str S [])(hu:u∈S.H)(hk:u.anc.length=k+1)(hx:S.ns[k]?=some x)(st:St):TrF Tryz.prog 142 [.ptr S.g (k*9+6),.ptr u.b 0] (S.st++st) fun d st'=>∃(ts:List Nat) (M':MemP),Nt.Str (Nt.setT S k x ts M') [u.b]∧d=.tup []∧((Nt.setT S k x ts M').st++st).Perm st':=by
 have hb:u.b∈x.ts:=(hS.tm k x hx u.b).2 ⟨u,hu,rfl,hk,List.not_mem_nil⟩
 obtain⟨i,n,z,hn,hi,hz⟩:=VR hb
 have hxm:=List.mem_of_getElem? hx
 obtain⟨q1,q2⟩:=Nt.swapL_mem (hS.tn k x hx) hn hi hz
 have hnl:n≤10000000000000:=by have:=Nt.ts_len hS hx;omega
 have h2:=Nc S.g 115 (Fe S.ns k x) (CO S.ns k S.zs) x.tm x.ts u.b z i n (hS.okx x hxm).2 hn hi hz hnl (x.fm.resF x.fs++(S.off k++st)) (fun b hb=>.inr (by
  obtain⟨w,hw,e1, -⟩:=(hS.tm k x hx b).1 hb
  rw[←e1]
  exact⟨_,_,List.mem_append_right _ (List.mem_append_left _ (List.mem_cons_of_mem _ (List.mem_append_right _ (List.mem_append_right _ (List.mem_flatMap.2 ⟨w,hw,List.mem_cons_self ..⟩)))))⟩))
 rw[FF hx] at h2
 have h1:(S.st++st).Perm (.box S.g 115 (Fe S.ns k x++(x.tm.cells x.ts.length++CO S.ns k S.zs))::(x.tm.resT x.ts++(x.fm.resF x.fs++(S.off k++st)))):=by
  have:=(NC.at_T hx).append_right st
  simp only[List.cons_append,List.append_assoc] at this
  exact this
 refine(TrF.perm h1 h2).mono fun d st' ⟨M',h3,h4,h5⟩=>⟨Ax x.ts i z,M',hS.dropT hu hk hx q1 q2 h3,h4,List.Perm.trans ?_ h5⟩
 have hx2:(Nt.setT S k x (Ax x.ts i z) M').ns[k]?=some {x with ts:=Ax x.ts i z,tm:=M'}:=List.getElem?_set_self (List.getElem?_eq_some_iff.1 hx).1
 have h6:=(NC.at_T hx2).append_right st
 refine h6.trans ?_
 simp only[List.cons_append,List.append_assoc]
 have e1:Fe (Nt.setT S k x (Ax x.ts i z) M').ns k {x with ts:=Ax x.ts i z,tm:=M'}=Fe S.ns k x:=by
  unfold Fe
  show Az ((S.ns.set k _).take k)++_=_
  rw[Bv]
 have e2:CO (Nt.setT S k x (Ax x.ts i z) M').ns k (Nt.setT S k x (Ax x.ts i z) M').zs=CO S.ns k S.zs:=by
  unfold CO
  show Az ((S.ns.set k _).drop (k+1))++_=_
  rw[BB]
  rfl
 have e3:(Nt.setT S k x (Ax x.ts i z) M').off k=S.off k:=by
  unfold NC.off NC.cbox
  show Res.box S.c _ [.ar S.g 0 (S.ns.set k _).length S.cap]::(((S.ns.set k _).take k).flatMap Nd.res++(((S.ns.set k _).drop (k+1)).flatMap Nd.res++S.H.flatMap Tok.res))=_
  rw[Bv,BB,List.length_set]
 rw[e1,e2,e3]
 show List.Perm (Res.box S.g _ (Fe S.ns k x++(M'.cells (Ax x.ts i z).length++CO S.ns k S.zs))::_) _
 rw[Ew hn]
theorem Tt(S:NC)(u p:Tok)(H1:List Tok)(hS:Nt.Str S [u.b])(hp:S.H.Perm (u::p::H1))(hup:u.anc.tail=p.anc)(hno:u.kids=[])(st:St):TrF Tryz.prog 142 [.ptr p.b 4,.ptr u.b 0] (S.st++st) fun d st'=>∃(ks:List Nat) (M':MemP),Nt.Str (Nt.dropKid S H1 p ks M') []∧d=.tup []∧(u.res++((Nt.dropKid S H1 p ks M').st++st)).Perm st':=by
 have hm:∀w,w∈S.H↔w=u∨w=p∨w∈H1:=fun w=>by rw[hp.mem_iff,List.mem_cons,List.mem_cons]
 have hu:=(hm u).2 (.inl rfl)
 have hpm:=(hm p).2 (.inr (.inl rfl))
 have hb:u.b∈p.kids:=(hS.km p hpm u.b).2 ⟨u,hu,rfl,hup⟩
 obtain⟨i,n,z,hn,hi,hz⟩:=VR hb
 obtain⟨q1,q2⟩:=Nt.swapL_mem (hS.kn p hpm) hn hi hz
 have hkl:=hS.kl p hpm
 have hp2:S.H.Perm (p::u::H1):=hp.trans (.swap _ _ _)
 have h2:=Nc p.b 119 p.pre [.i p.count] p.km p.kids u.b z i n (hS.okt p hpm) hn hi hz q_o (({S with H:=u::H1}:NC).st++st) (fun b hb=>by
  obtain⟨w,hw,e1, -⟩:=(hS.km p hpm b).1 hb
  rw[←e1]
  rcases(hm w).1 hw with rfl|rfl|hw
  · exact .inr ⟨_,_,List.mem_append_left _ (Nt.tok_box (S:={S with H:=w::H1}) (List.mem_cons_self ..))⟩
  · exact .inl rfl
  · exact .inr ⟨_,_,List.mem_append_left _ (Nt.tok_box (S:={S with H:=u::H1}) (List.mem_cons_of_mem _ hw))⟩)
 have h1:(S.st++st).Perm (.box p.b 119 (p.pre++(p.km.cells p.kids.length++[.i p.count]))::(p.km.resT p.kids++(({S with H:=u::H1}:NC).st++st))):=by
  have:=(NC.at_tok hp2).append_right st
  simp only[List.cons_append,List.append_assoc] at this
  exact this
 have hsl:=Ew (i:=i) (z:=z) hn
 refine(TrF.perm h1 h2).mono fun d st' ⟨M',h3,h4,h5⟩=>⟨Ax p.kids i z,M',hS.dropKid hp hup hno q1 q2 (by rw[hsl];omega) h3,h4,List.Perm.trans ?_ h5⟩
 have h6:=NC.at_tok (S:=Nt.dropKid S H1 p (Ax p.kids i z) M') (t:=Nt.withKids p (Ax p.kids i z) M') (H0:=H1) (.refl _)
 have h7:=NC.at_tok (S:={S with H:=u::H1}) (t:=u) (H0:=H1) (.refl _)
 have e1:(Nt.withKids p (Ax p.kids i z) M').cells=p.pre++(M'.cells n++[.i p.count]):=by
  show p.pre++(M'.cells (Ax p.kids i z).length++[.i p.count])=_
  rw[hsl]
 rw[e1] at h6
 have h8:=h6.append_right st
 simp only[List.cons_append,List.append_assoc] at h8
 have h9:=h7.append_right st
 simp only[List.cons_append,List.append_assoc] at h9
 refine(List.Perm.append_left u.res h8).trans ?_
 refine List.Perm.trans ?_ ((List.Perm.append_left _ h9.symm).cons _)
 show(u.res++(Res.box p.b _ _::(M'.resT (Ax p.kids i z)++_))).Perm (_::(M'.resT (Ax p.kids i z)++(u.res++_)))
 exact List.perm_middle.trans (.cons _ (ZN _ _ _))
section
attribute [local push_cast] Ad Ae Ao V.cells_mk V.cells_len Nat.mul_one Int.sub_zero List.map_nil beq_self_eq_true bne_self_eq_false List.head?_cons Bool.not_true Bool.not_false Nat.zero_add Fl Fm
attribute [-instance] Aq Av Am AV
namespace Nt
variable {S S' Sj:NC} {E X:List Nat} {t u v w t':Tok} {H0 H1:List Tok}
structure RemR (S S':NC)(u:Tok):Prop extends Kept S S' where
 keep:∀w,¬u.anc <:+ w.anc→w.anc≠u.anc.tail→(w∈S.H↔w∈S'.H)
 gone:∀w∈S'.H,¬u.anc <:+ w.anc
 par:∃p'∈S'.H,p'.anc=u.anc.tail∧∀p∈S.H,p.anc=u.anc.tail→p'.id=p.id∧p'.env=p.env∧p'.count=p.count
structure PruR (S S':NC)(t:Tok):Prop extends Kept S S' where
 keep:∀w,¬t.anc <:+ w.anc→(w∈S.H↔w∈S'.H)
 gone:∀w∈S'.H,t.anc <:+ w.anc→w.anc=t.anc
 self:∃t'∈S'.H,t'.anc=t.anc∧t'.id=t.id∧t'.env=t.env∧t'.count=t.count∧t'.kids=[]
theorem XZ{u:Tok}(h:u.anc≠[]):¬u.anc <:+ u.anc.tail:=fun hs=>by
 have:=hs.length_le
 rw[List.length_tail] at this
 have:=List.length_pos_iff.2 h
 omega
theorem PruR.rem{S1:NC}{k:Nat}{x1:Nd}{ts ks:List Nat}{M M':MemP}{u1 p1:Tok}(hS1:Str S1 [])(hne:u.anc≠[])(h:PruR S S1 u)(hu1:u1.anc=u.anc)(hp1:p1.anc=u.anc.tail)(hpm:S1.H.Perm (u1::p1::H1))(hx1:S1.ns[k]?=some x1):RemR S (dropKid (setT S1 k x1 ts M) H1 p1 ks M') u:=by
 have hm:∀w,w∈S1.H↔w=u1∨w=p1∨w∈H1:=fun w=>by rw[hpm.mem_iff,List.mem_cons,List.mem_cons]
 have hsuf:=XZ hne
 have hK:Kept S (dropKid (setT S1 k x1 ts M) H1 p1 ks M'):=by
  have h1:=h.toKept.trans (kept_setT (ts:=ts) (M:=M) hx1)
  exact⟨h1.c,h1.g,h1.cap,h1.zs,h1.nl,h1.ns⟩
 refine⟨hK,fun w hw hwt=>?_,fun w hw hs=>?_,withKids p1 ks M',List.mem_cons_self ..,hp1,fun p hp he=>?_⟩
 · rw[h.keep w hw,hm]
   show _↔w∈withKids p1 ks M'::H1
   rw[List.mem_cons]
   constructor
   · rintro(rfl|rfl|h)
     · exact absurd (by rw[hu1];exact List.suffix_refl _) hw
     · exact absurd hp1 hwt
     · exact .inr h
   · rintro(rfl|h)
     · exact absurd hp1 hwt
     · exact .inr (.inr h)
 · have hw:w∈withKids p1 ks M'::H1:=hw
   rcases List.mem_cons.1 hw with rfl|hw
   · exact hsuf (by rw[←hp1];exact hs)
   · have hwS:=(hm w).2 (.inr (.inr hw))
     have e:=h.gone w hwS hs
     have e2:=hS1.anc_b hwS ((hm u1).2 (.inl rfl)) (e.trans hu1.symm)
     have hnd:=(hpm.map Tok.b).nodup_iff.1 hS1.nd
     rw[List.map_cons,List.map_cons,List.nodup_cons] at hnd
     refine hnd.1 ?_
     rw[←e2]
     exact List.mem_cons_of_mem _ (List.mem_map_of_mem hw)
 · have h2:=(h.keep p (by rw[he];exact hsuf)).1 hp
   have:=hS1.anc_b h2 ((hm p1).2 (.inr (.inl rfl))) (he.trans hp1.symm)
   subst this
   exact⟨rfl,rfl,rfl⟩
structure PruJ (S:NC)(t:Tok)(K0:List Nat)(j:Nat)(Sj:NC):Prop extends Kept S Sj where
 str:Str Sj []
 keep:∀w,¬t.anc <:+ w.anc→(w∈S.H↔w∈Sj.H)
 self:∃t'∈Sj.H,t'.anc=t.anc∧t'.id=t.id∧t'.env=t.env∧t'.count=t.count∧∀b,b∈t'.kids↔b∈K0.drop j
theorem PruJ.kid{K0:List Nat}{j b:Nat}(h:PruJ S t K0 j Sj)(hb:K0[j]?=some b):∃u∈Sj.H,u.b=b∧u.anc.tail=t.anc:=by
 obtain⟨t',k1,k2, -, -, -,k3⟩:=h.self
 have:b∈t'.kids:=(k3 b).2 (by rw[V.drop_cons hb];exact List.mem_cons_self ..)
 obtain⟨u,u1,u2,u3⟩:=(h.str.km t' k1 b).1 this
 exact⟨u,u1,u2,u3.trans k2⟩
theorem PruJ.step{K0:List Nat}{j b:Nat}(h:PruJ S t K0 j Sj)(hnd:K0.Nodup)(hb:K0[j]?=some b)(hu:u∈Sj.H)(hub:u.b=b)(hut:u.anc.tail=t.anc)(hS':Str S' [])(hR:RemR Sj S' u):PruJ S t K0 (j+1) S':=by
 obtain⟨t',k1,k2,k3,k4,k5,k6⟩:=h.self
 obtain⟨p',p1,p2,p3⟩:=hR.par
 obtain⟨q1,q2,q3⟩:=p3 t' k1 (k2.trans hut.symm)
 have hune:=h.str.ne u hu
 have hts:t.anc <:+ u.anc:=by rw[←hut];exact List.tail_suffix _
 refine⟨h.toKept.trans hR.toKept,hS',fun w hw=>?_,p',p1,p2.trans hut,q1.trans k3,q2.trans k4,q3.trans k5,fun c=>?_⟩
 · rw[h.keep w hw]
   exact hR.keep w (fun hs=>hw (hts.trans hs)) (fun e=>hw (by rw[e,hut];exact List.suffix_refl _))
 · have hul:u.anc.length=t.anc.length+1:=by rw[tok_b hune,hut,List.length_cons]
   have hd:c∈K0.drop (j+1)↔c∈K0.drop j∧c≠b:=by
    have hnd2:=hnd.sublist (List.drop_sublist j K0)
    rw[V.drop_cons hb] at hnd2 ⊢
    rw[List.nodup_cons] at hnd2
    rw[List.mem_cons]
    constructor
    · intro h1;exact⟨.inr h1,fun e=>hnd2.1 (e▸h1)⟩
    · rintro⟨rfl|h1,h2⟩
      · exact absurd rfl h2
      · exact h1
   rw[hd,←k6 c,hS'.km p' p1 c,h.str.km t' k1 c,p2,hut,k2]
   have hlen:∀v:Tok,v.anc≠[]→v.anc.tail=t.anc→v.anc.length=t.anc.length+1:=fun v hv e=>by rw[tok_b hv,e,List.length_cons]
   constructor
   · rintro⟨v,v1,v2,v3⟩
     have hvl:=hlen v (hS'.ne v v1) v3
     have hns:=hR.gone v v1
     have hvS:=(hR.keep v hns (fun e=>by rw[e,hut] at hvl;omega)).2 v1
     refine⟨⟨v,hvS,v2,v3⟩,fun e=>hns ?_⟩
     have:=h.str.same hvS hu (v2.trans (e.trans hub.symm))
     rw[this]
     exact List.suffix_refl _
   · rintro⟨⟨v,v1,v2,v3⟩,hne⟩
     have hvl:=hlen v (h.str.ne v v1) v3
     refine⟨v,(hR.keep v (fun hs=>hne ?_) (fun e=>by rw[e,hut] at hvl;omega)).1 v1,v2,v3⟩
     have e:=FZ hs q_o
     have:=h.str.anc_b v1 hu e.symm
     rw[←v2,this,hub]
theorem below(hS:Str S E):∀n (w:Tok),w∈S.H→w.anc.length=n→t.anc≠[]→t.anc <:+ w.anc→w.anc≠t.anc→∃v∈S.H,v.anc.tail=t.anc
|0,w,hw,hl,_,_,_=>absurd (List.eq_nil_of_length_eq_zero hl) (hS.ne w hw)
|n+1,w,hw,hl,ht,hs,hne=>by
  by_cases e:w.anc.tail=t.anc
  · exact⟨w,hw,e⟩
  · have hs2 : t.anc <:+ w.anc.tail := by
     have h1:=tok_b (hS.ne w hw)
     rw[h1] at hs
     rcases List.suffix_cons_iff.1 hs with h2|h2
     · exact absurd (h1.trans h2.symm) hne
     · exact h2
    have hnil:w.anc.tail≠[]:=fun e0=>by
     rw[e0] at hs2
     exact ht (List.suffix_nil.1 hs2)
    obtain⟨q,q1,q2⟩:=hS.up w hw hnil
    refine below hS n q q1 (by rw[←q2,List.length_tail,hl];rfl) ht (by rw[←q2];exact hs2) (fun e2=>e (q2.trans e2))
theorem PruJ.done{K0:List Nat}(h:PruJ S t K0 K0.length Sj)(ht:t.anc≠[]):PruR S Sj t:=by
 obtain⟨t',k1,k2,k3,k4,k5,k6⟩:=h.self
 have hk:t'.kids=[]:=List.eq_nil_iff_forall_not_mem.2 fun b hb=>by
  have:=(k6 b).1 hb
  rw[List.drop_length] at this
  cases this
 refine⟨h.toKept,h.keep,fun w hw hs=>?_,t',k1,k2,k3,k4,k5,hk⟩
 by_cases e:w.anc=t.anc
 · exact e
 · obtain⟨v,v1,v2⟩:=below h.str _ w hw rfl ht hs e
   have:=(h.str.km t' k1 v.b).2 ⟨v,v1,rfl,v2.trans k2.symm⟩
   rw[hk] at this
   cases this
end Nt
def Hx (k:Nat):Prop:=∀(S:NC) (u:Tok),Nt.Str S []→u∈S.H→u.anc.length=k+1→u.anc.tail≠[]→∀st,TrF Tryz.prog 105 [.ptr S.c 0,.ptr u.b 0] (S.st++st) fun d st'=>∃S',Nt.Str S' []∧Nt.RemR S S' u∧d=.tup []∧(S'.st++st).Perm st'
def Qk (k:Nat):Prop:=∀(S:NC) (t:Tok),Nt.Str S []→t∈S.H→t.anc.length=k+1→∀st,TrF Tryz.prog 102 [.ptr S.c 0,.ptr t.b 0] (S.st++st) fun d st'=>∃S',Nt.Str S' []∧Nt.PruR S S' t∧d=.tup []∧(S'.st++st).Perm st'
theorem Vn(k:Nat)(hR:Hx (k+1)):Qk k:=by
 intro S t hS ht hk st
 obtain⟨H0,hp⟩:=Nt.tok_split ht
 have hkl:=hS.kl t ht
 have hkn:=hS.kn t ht
 have h1:=(NC.at_tok hp).append_right st
 simp only[List.cons_append,List.append_assoc] at h1
 have hall0:=IR t.b 119 t.pre [.i t.count] t.km t.kids (hS.okt t ht) q_o (({S with H:=H0}:NC).st++st)
 have hall:Hid (TrF Tryz.prog 104 [.ptr t.b 4] (S.st++st) fun d st'=>d=.fn (.func 141) [] [.ip [.sl .shared (Cr t.kids)]]∧(S.st++st).Perm st'):=(TrF.perm h1 hall0).mono fun d st' ⟨e1,e2⟩=>⟨e1,by rw[e2];exact h1⟩
 have hIt:=Lib.hid (IQ t.kids q_o)
 have hJ0:Hid (Nt.PruJ S t t.kids 0 S):=⟨Nt.Kept.refl _,hS,fun w _=>Iff.rfl,t,ht,rfl,rfl,rfl,rfl,fun b=>Iff.rfl⟩
 have hne:=hS.ne t ht
 clear h1 hall0 hS hp
 generalize hST:S.st++st=ST at *
 refine Qin [] Tryz.func102 Tryz.results102 Tryz.ntmps102 ?_
 repeat' (first|refine QV ?_|((with_reducible apply(Ah (f:=104) (henter:=Tryz.call104) (hp:=List.Perm.refl _) (h:=hall.out)));(focus exact q_v);(focus(first|exact LEL.refl _|((repeat' (first|exact LEL.nil|refine LEL.cons ?_ ?_|exact LE.refl _|exact LE.sl _ _|refine LE.agg ?_));done)));(rintro d0 st0 ⟨rfl,hp3⟩))|refine QY ?_|(refine QB ?_;intro b)|(with_reducible refine QZ ?_<;>(try constructor)<;>intro hb<;>try intro hb1)|fail)
 refine Af (st':=[]++(S.st++st)) (by rw[List.nil_append,hST];exact hp3.symm) ?_
 clear hp3 hall
 refine Dx hIt.out Tryz.call141 q_v (fun _=>rfl) rfl (fun j C=>∃Sj,Nt.PruJ S t t.kids j Sj∧C=Sj.st++st) (fun _ _ _=>False) ⟨S,hJ0.out,rfl⟩ ?_ ?_ (fun _ _ _ _ _ _ h=>h.elim)
 · rintro l j b C K hb ⟨Sj,hJ,rfl⟩
   obtain⟨u,u1,u2,u3⟩:=hJ.kid hb
   have hul:u.anc.length=k+1+1:=by rw[Nt.tok_b (hJ.str.ne u u1),u3,List.length_cons,hk]
   clear hIt hJ0
   refine(?_:Tr _ _ _ _ (AA.put ⟨_,[]⟩ (some 9) (.ptr b 0)) ((Sj.st++st)++K) _)
   repeat' (first|refine QX ?_|(refine QB ?_;intro b)|(with_reducible refine QZ ?_<;>(try constructor)<;>intro hb<;>try intro hb1)|fail)
   refine⟨Sj.st++st,List.Sublist.refl _,fun K'=>?_⟩
   clear K
   have hrm:=hR Sj u hJ.str u1 hul (by rw[u3];exact hne) (st++K')
   rw[hJ.c,u2] at hrm
   have hst:=Lib.hid fun(S':NC) h1 h2=>hJ.step hkn hb u1 u2 u3 (S':=S') h1 h2
   replace hrm:=Lib.hid hrm
   refine De ?_
   refine Af (st':=Sj.st++(st++K')) (by rw[←List.append_assoc]) ?_
   clear hJ hul u1 u2 u3 hR hb
   repeat' (first|refine QV ?_|((with_reducible apply(Ah (f:=105) (henter:=Tryz.call105) (hp:=List.Perm.refl _) (h:=hrm.out)));(focus exact q_v);(focus(first|exact LEL.refl _|((repeat' (first|exact LEL.nil|refine LEL.cons ?_ ?_|exact LE.refl _|exact LE.sl _ _|refine LE.agg ?_));done)));(rintro d0 st0 ⟨S',h1,h2,rfl,hp4⟩))|refine QY ?_|(refine QB ?_;intro b)|(with_reducible refine QZ ?_<;>(try constructor)<;>intro hb<;>try intro hb1)|fail)
   exact⟨(S'.st++st)++K',by rw[List.append_assoc];exact hp4.symm,_,List.Sublist.refl _,S',hst.out S' h1 h2,rfl⟩
 · rintro d K1 C' rfl ⟨Sj,hJ,rfl⟩
   have hfin:Hid (∃S',Nt.Str S' []∧Nt.PruR S S' t∧D.tup []=D.tup []∧(S'.st++st).Perm (Sj.st++st)):=⟨Sj,hJ.str,hJ.done hne,rfl,.refl _⟩
   repeat' (first|refine QX ?_|(refine QB ?_;intro b)|(with_reducible refine QZ ?_<;>(try constructor)<;>intro hb<;>try intro hb1)|fail)
   exact Bn q_x q_y (.refl _) (List.Sublist.refl _) (LE.refl _) hfin.out
end
section
attribute [local push_cast] Ad Ae Ao V.cells_mk V.cells_len Nat.mul_one Int.sub_zero List.map_nil beq_self_eq_true bne_self_eq_false List.head?_cons Bool.not_true Bool.not_false Nat.zero_add Fl Fm
attribute [-instance] Aq Av Am AV
section
variable {P:Program} {r:Option Nat} {A:AA} {st:St} {k:D→St→Prop} {dst:Option Tmp} {ty:TypeId} {pos:String} {aft:Array Edge} {gd:Option (Nat×Bool)} {t t':TypeId} {x:Operand}
theorem Fy{b off:Nat}(ht:Pj P t=true)(hx:ev A.e x=some (.ptr b off))(hk:k (.b true) st):S P r none ⟨dst,.binOp .neq t x (.const (.pointer none)) t',ty,pos,aft,gd⟩ A st k:=QD (a:=some ⟨b,off,none⟩) ht hx rfl hk
theorem Nm(ht:Pj P t=true)(hx:ev A.e x=some (.s (.pointer none)))(hk:k (.b false) st):S P r none ⟨dst,.binOp .neq t x (.const (.pointer none)) t',ty,pos,aft,gd⟩ A st k:=QD (a:=none) ht hx rfl hk
end
theorem NC.lay{S Sj:NC}{w:Tok}{Hj:List Tok}{k:Nat}(hK:Nt.Kept S Sj)(hk:w.anc.length=k+1)(hp:Sj.H.Perm (w::Hj))(s:St):∃(ROWj UC:List D) (RJ:St),(Sj.st++s).Perm (.box S.c 109 [.ar S.g 0 S.ns.length S.cap]::.box S.g 115 ROWj::.box w.b 119 (w.fromD::.i k::UC)::RJ):=by
 have e1:Sj.cbox=.box S.c 109 [.ar S.g 0 S.ns.length S.cap]:=by unfold NC.cbox;rw[hK.c,hK.g,hK.cap,hK.nl]
 have e2:Sj.gbox=.box S.g 115 (Az Sj.ns++Sj.zs):=by unfold NC.gbox;rw[hK.g]
 have h2:w.lv=k:=by unfold Tok.lv;omega
 have e3:w.cells=w.fromD::.i k::([.i w.id,.sl .shared (w.env.map V.cells)]++(w.km.cells w.kids.length++[.i w.count])):=by
  unfold Tok.cells Tok.pre
  rw[h2]
  rfl
 have:=NC.view hp s
 rw[e1,e2,e3] at this
 exact⟨_,_,_,this⟩
theorem XC(k:Nat)(hP:Qk k):Hx k:=by
 intro S u hS hu hk hne st
 have hkn:=hS.lv u hu
 have hn5:=hS.nl
 have hkS:k<S.ns.length:=by omega
 have hune:=hS.ne u hu
 have hcap:S.ns.length≤S.cap:=by
  have:=hS.row
  rw[List.length_append,AZ] at this
  omega
 obtain⟨pb,pl,hpl⟩:∃pb pl,u.anc.tail=pb::pl:=by
  cases h:u.anc.tail with
  | nil=>exact absurd h hne
  | cons a l=>exact⟨a,l,rfl⟩
 have hpr:=Lib.hid (hP S u hS hu hk st)
 have hfr:∀w:Tok,w.anc=u.anc→w.fromD=.ptr pb 0:=fun w e=>by
  unfold Tok.fromD
  rw[e,hpl]
 have hub:∀w:Tok,w.anc=u.anc→w.b=u.b:=fun w e=>Nt.b_of e
 clear hP hS hu
 generalize hST:S.st++st=ST at *
 refine Qin [] Tryz.func105 Tryz.results105 Tryz.ntmps105 ?_
 refine GP 0 (fun A' st'=>A'.df=[]∧A'.e 0=.ptr S.c 0∧A'.e 1=.ptr u.b 0∧∃S1,Nt.Str S1 []∧Nt.PruR S S1 u∧(S1.st++st).Perm st') ?_ ?_
 · repeat' (first|refine QV ?_|((with_reducible apply(Ah (f:=102) (henter:=Tryz.call102) (hp:=List.Perm.refl _) (h:=hpr.out)));(focus exact q_v);(focus(first|exact LEL.refl _|((repeat' (first|exact LEL.nil|refine LEL.cons ?_ ?_|exact LE.refl _|exact LE.sl _ _|refine LE.agg ?_));done)));(rintro d0 st0 ⟨S1,h1,h2,rfl,hp1⟩))|refine QY ?_|(refine QB ?_;intro b)|(with_reducible refine QZ ?_<;>(try constructor)<;>intro hb<;>try intro hb1)|fail)
   exact⟨Qf,Qf,Qf,S1,h1,h2,hp1⟩
 clear hpr hST ST
 rintro A st1 ⟨hdf,e0,e1,S1,hS1,hPr,hp1⟩
 obtain⟨u1,u2,u3, -, -, -,u4⟩:=hPr.self
 obtain⟨p1,q1,q2⟩:=hS1.up u1 u2 (by rw[u3];exact hne)
 rw[u3] at q2
 have hup:u1.anc.tail=p1.anc:=by rw[u3];exact q2
 have hpne:p1≠u1:=fun e=>by
  rw[e,u3] at q2
  have:=congrArg List.length q2
  rw[List.length_tail] at this
  have:=List.length_pos_iff.2 hune
  omega
 obtain⟨H0,hp0⟩:=Nt.tok_split u2
 have hp0m:p1∈H0:=((Nt.memH hp0).1 q1).resolve_left hpne
 obtain⟨la,lb,hab⟩:=List.append_of_mem hp0m
 have hpm:S1.H.Perm (u1::p1::(la++lb)):=hp0.trans (by rw[hab];exact(List.perm_middle).cons _)
 obtain⟨x1,hx1⟩:∃x1,S1.ns[k]?=some x1:=⟨_,List.getElem?_eq_getElem (by rw[hPr.nl];omega)⟩
 have hk1:u1.anc.length=k+1:=by rw[u3];exact hk
 have hlv:=ZW S1 u1 k x1 hS1 u2 hk1 hx1 st
 obtain⟨ROW1,UC1,R1,v1⟩:=NC.lay hPr.toKept hk1 hp0 st
 have hpb:p1.b=pb:=by
  unfold Tok.b
  rw[←q2,hpl];rfl
 have hnext:Hid (∀(ts:List Nat) (M':MemP),Nt.Str (Nt.setT S1 k x1 ts M') [u.b]→(∃(ROW2 UC2:List D) (R2:St),((Nt.setT S1 k x1 ts M').st++st).Perm (.box S.c 109 [.ar S.g 0 S.ns.length S.cap]::.box S.g 115 ROW2::.box u.b 119 (.ptr pb 0::.i k::UC2)::R2))∧TrF Tryz.prog 142 [.ptr pb 4,.ptr u.b 0] ((Nt.setT S1 k x1 ts M').st++st) fun d st'=>∃S',Nt.Str S' []∧Nt.RemR S S' u∧d=.tup []∧(u1.res++(S'.st++st)).Perm st'):=fun ts M' h=>by
  have hKs:=hPr.toKept.trans (Nt.kept_setT (ts:=ts) (M:=M') hx1)
  obtain⟨ROW2,UC2,R2,v2⟩:=NC.lay (Sj:=Nt.setT S1 k x1 ts M') hKs hk1 hp0 st
  rw[hfr u1 u3,hub u1 u3] at v2
  refine⟨⟨ROW2,UC2,R2,v2⟩,?_⟩
  have h2:=Tt (Nt.setT S1 k x1 ts M') u1 p1 (la++lb) (by rw[hub u1 u3];exact h) hpm hup u4 st
  rw[hpb,hub u1 u3] at h2
  exact h2.mono fun d st' ⟨ks,M2,h3,h4,h5⟩=>⟨_,h3,hPr.rem hS1 hune u3 q2.symm hpm hx1,h4,h5⟩
 rw[hfr u1 u3,hub u1 u3] at v1
 rw[hub u1 u3,hPr.g] at hlv
 have hlv2:=Lib.hid (TrF.perm v1.symm hlv)
 have hinh:Hid ((∃w,Holds (.box S.c 109 [.ar S.g 0 S.ns.length S.cap]::.box S.g 115 ROW1::.box u.b 119 (.ptr pb 0::.i k::UC1)::R1) w)→∃d st',∃(ts:List Nat) (M':MemP),Nt.Str (Nt.setT S1 k x1 ts M') [u.b]∧d=D.tup []∧((Nt.setT S1 k x1 ts M').st++st).Perm st'):=fun⟨w,hw⟩=>hlv2.out.inhab (us:=[.pointer (some ⟨S.g,k*9+6,none⟩),.pointer (some ⟨u.b,0,none⟩)]) (RepL.cons (.ptr _ _) (RepL.cons (.ptr _ _) .nil)) hw
 refine Af (hp1.symm.trans v1) ?_
 clear hp1 v1 hlv hfr hub hp0 hpm hx1 hS1 hPr u2 u3 u4 q1 q2 hup hpne hp0m hab hpb hpl hk1 hk hne hune
 repeat' (first|refine QV ?_|((with_reducible apply(FX (id:=1) [(S.c,[.ar S.g 0 S.ns.length S.cap]),(u.b,.ptr pb 0::.i k::UC1)]));(iterate 3 (focus kernel_rfl));(focus exact q_k);intro hne;(try simp only[nes,ne1,and_assoc] at hne);(repeat(have hq:=hne.1;replace hne:=hne.2));intro hw)|((with_reducible refine And.intro ?_ ?_);(focus exact q_k))|((with_reducible apply(Br Tryz.call142));(focus exact List.Perm.refl _);(focus exact hlv2.out);(focus exact LEL.refl _);(focus exact hinh.out hw);(rintro d2 st2 ⟨ts,M2,h1,rfl,hp2⟩;refine⟨An,?_⟩;obtain⟨⟨ROW2,UC2,R2,v2⟩,hkd⟩:=hnext.out ts M2 h1))|((with_reducible refine Af (hp2.symm.trans v2) ?_))|((with_reducible apply(Fy (b:=pb) (off:=0)));(focus kernel_rfl);(focus exact q_v))|((with_reducible apply(Ah (f:=142) (henter:=Tryz.call142) (hp:=v2.symm) (h:=hkd)));(focus exact q_v);(focus(first|exact LEL.refl _|((repeat' (first|exact LEL.nil|refine LEL.cons ?_ ?_|exact LE.refl _|exact LE.sl _ _|refine LE.agg ?_));done)));(rintro d0 st0 ⟨S',h3,h4,rfl,hp5⟩))|(with_reducible refine Bl ?_)|refine QY ?_|(refine QB ?_;intro b)|(with_reducible refine QZ ?_<;>(try constructor)<;>intro hb<;>try intro hb1)|fail)
 all_goals exact DM (rs:=[]) q_x q_y hp5.symm (show List.Sublist (S'.st++st) (u1.res++(S'.st++st)) from List.sublist_append_right _ _) (LE.refl _) ⟨S',h3,h4,rfl,.refl _⟩
end
theorem KX{k:Nat}(h:5≤k):Hx k:=fun S u hS hu hk _ st=>absurd (Nat.le_trans (hS.lv u hu) hS.nl) q_o
theorem KY:∀n k,k+n=5→Hx k
|0,k,h=>KX q_o
|n+1,k,h=>XC k (Vn k (KY n (k+1) q_o))
theorem QJ(k:Nat):Hx k:=by
 by_cases h:5≤k
 · exact KX h
 · exact KY (5 - k) k q_o
theorem ZM(k:Nat):Qk k:=Vn k (QJ (k+1))
section
attribute [local push_cast] Ad Ae Ao V.cells_mk V.cells_len Nat.mul_one Int.sub_zero List.map_nil beq_self_eq_true bne_self_eq_false List.head?_cons Bool.not_true Bool.not_false Nat.zero_add
def Mat.lo (p:Pt):Pt:=⟨p.tmpl,false,p.tests.filter fun t=>decide (t.kind<5)⟩
def Mat.solo (p:Pt)(f:Fc):Bool:=(Mat.pass (Mat.lo p) f Mat.empty).isSome
theorem Mf{α:Type}{L:List α}{i:Nat}{t:α}(h:L[i]?=some t)(q:α→Bool)(hq:q t=true):(L.take (i+1)).filter q=(L.take i).filter q++[t]:=by
 rw[List.take_add_one,h,Option.toList_some,List.filter_append,List.filter_cons_of_pos hq,List.filter_nil]
theorem Mg{α:Type}{L:List α}{i:Nat}{t:α}(h:L[i]?=some t)(q:α→Bool)(hq:q t=false):(L.take (i+1)).filter q=(L.take i).filter q:=by
 rw[List.take_add_one,h,Option.toList_some,List.filter_append,List.filter_cons_of_neg (by rw[hq];decide),List.filter_nil,List.append_nil]
theorem aA(p:Pt)(f:Fc)(hp:PK p)(hf:FK f)(st:St):TrF Tryz.prog 99 [.agg p.cells,.agg f.cells] st fun d st'=>d=.b (Mat.solo p f)∧st'=st:=by
 have hlo:∀t∈(Mat.lo p).tests,t.val.Bg:=fun t ht=>hp.v t (List.mem_filter.1 ht).1
 have hlol:(Mat.lo p).tests.length≤1000000:=Nat.le_trans (List.length_filter_le ..) hp.l
 have hPa:Hid (∀st:St,TrF Tryz.prog 17 [.agg (Mat.lo p).cells,.agg f.cells,.sl .shared (Mat.empty.map V.cells)] st fun d st'=>d=FH (Mat.pass (Mat.lo p) f Mat.empty)∧st'=st):=fun st=>JG (Mat.lo p) f Mat.empty hlo hlol hf empty_ek.v empty_ek.l .shared st
 have hEm:Hid (∀st:St,TrF Tryz.prog 20 [] st fun d st'=>d=.sl .shared (Mat.empty.map V.cells)∧st'=st):=fun st=>Lk st
 have hal:Mat.solo p f=(Mat.pass (Mat.lo p) f Mat.empty).isSome:=rfl
 have hpm:(p.tests.map Ts.cells).length=p.tests.length:=List.length_map ..
 have hpl:=hp.l
 clear hlo hlol hp hf
 have hpc:=hMp Ts.cells p.tests
 generalize Mat.pass (Mat.lo p) f Mat.empty=R at *
 rw[hal]
 clear hal
 generalize Mat.empty.map V.cells=EC at *
 have hlc:(Mat.lo p).cells=[.i p.tmpl,.b false,.sl .shared ((p.tests.filter fun t=>decide (t.kind<5)).map Ts.cells)]:=rfl
 rw[hlc] at hPa
 clear hlc
 unfold Pt.cells
 unfold Fc.cells at *
 cases p with
|mk tm ng tests =>
 dsimp only at *
 generalize f.s.map V.cells=FS at *
 generalize f.id=f0 at *
 generalize f.time=f1 at *
 generalize f.tmpl=f2 at *
 generalize f.ver=f3 at *
 generalize hTS:tests.map Ts.cells=TS at *
 refine Qin [4] Tryz.func99 Tryz.results99 Tryz.ntmps99 ?_
 refine ET 76 7 (((tests.take 0).filter fun t=>decide (t.kind<5)).map Ts.cells).length ?_
 repeat' (first|refine QX ?_|(refine QB ?_;intro b)|(refine QP ?_;intro o' ho')|(with_reducible refine QZ ?_<;>(try constructor)<;>intro hb<;>try intro hb1)|fail)
 revert b
 intro pb
 refine Aj (ι:=Nat) (fun i A st'=>i≤tests.length∧A.df=[]∧A.e 3=.ip [.i f0,.i f1,.i f2,.i f3,.sl .shared FS]∧A.e 5=.ptr pb 0∧A.e 14=.sl .shared TS∧A.e 15=.i tests.length∧A.e 16=.i i∧∃o,o≠.shared∧st'=.box pb 39 [.i tm,.b false,.sl o (((tests.take i).filter fun t=>decide (t.kind<5)).map Ts.cells)]::.room o 76 7 (((tests.take i).filter fun t=>decide (t.kind<5)).map Ts.cells).length::st) (fun i=>tests.length - i) 0 ⟨Nat.zero_le _,Qf,Qf,Qf,Qf,Qf,Qf,.tight,by decide,rfl⟩ ?_
 rintro i A st' ⟨hi,hdf,e3,e5,e14,e15,e16,o,ho,rfl⟩
 by_cases hlt:i<tests.length
 · obtain⟨t,ht⟩:=gEx hlt
   have htc:=hpc.out i t ht
   clear hpc hPa hEm
   have hb7:∀a∈((tests.take i).filter fun t=>decide (t.kind<5)).map Ts.cells,a.length=7:=fun a ha=>by
    obtain⟨t, -,rfl⟩:=List.mem_map.1 ha
    cases t with
    | mk kind slot var val=>cases val with
     | mk k n s l=>rfl
   have hbl:(((tests.take i).filter fun t=>decide (t.kind<5)).map Ts.cells).length≤1000000:=by
    rw[List.length_map]
    refine Nat.le_trans (List.length_filter_le ..) ?_
    rw[List.length_take]
    omega
   by_cases hk:t.kind<5
   · have hcx:=congrArg (List.map Ts.cells) (Mf ht (fun t=>decide (t.kind<5)) (decide_eq_true hk))
     rw[List.map_append,List.map_cons,List.map_nil] at hcx
     have hcx2:Hid _:=hcx
     clear hcx ht
     cases t with
     | mk kind slot var val =>
     cases val with
     | mk k n s l =>
     rw[Ts.cells_mk] at *
     dsimp only at hk
     generalize l.map V.cells=VL at *
     generalize hT0:((tests.take i).filter fun t=>decide (t.kind<5)).map Ts.cells=T0 at *
     repeat' (first|refine QX ?_|(refine QB ?_;intro b)|(refine QP ?_;intro o' ho')|(with_reducible refine QZ ?_<;>(try constructor)<;>intro hb<;>try intro hb1)|fail)
     refine⟨i+1,.box pb 39 [.i tm,.b false,.sl o' (((tests.take (i+1)).filter fun t=>decide (t.kind<5)).map Ts.cells)]::.room o' 76 7 (((tests.take (i+1)).filter fun t=>decide (t.kind<5)).map Ts.cells).length::st,?_,⟨hlt,?_,?_,?_,?_,?_,?_,o',by assumption,rfl⟩,by omega⟩
     · rw[hcx2.out];(repeat(first|exact List.Sublist.refl _|with_reducible apply List.Sublist.cons_cons|apply List.Sublist.cons))
     all_goals exact Qf
   · have hcx:=congrArg (List.map Ts.cells) (Mg ht (fun t=>decide (t.kind<5)) (decide_eq_false hk))
     have hcx2:Hid _:=hcx
     clear hcx ht
     cases t with
     | mk kind slot var val =>
     cases val with
     | mk k n s l =>
     rw[Ts.cells_mk] at *
     dsimp only at hk
     generalize l.map V.cells=VL at *
     generalize hT0:((tests.take i).filter fun t=>decide (t.kind<5)).map Ts.cells=T0 at *
     repeat' (first|refine QX ?_|(refine QB ?_;intro b)|(refine QP ?_;intro o' ho')|(with_reducible refine QZ ?_<;>(try constructor)<;>intro hb<;>try intro hb1)|fail)
     refine⟨i+1,.box pb 39 [.i tm,.b false,.sl o (((tests.take (i+1)).filter fun t=>decide (t.kind<5)).map Ts.cells)]::.room o 76 7 (((tests.take (i+1)).filter fun t=>decide (t.kind<5)).map Ts.cells).length::st,?_,⟨hlt,?_,?_,?_,?_,?_,?_,o,ho,rfl⟩,by omega⟩
     · rw[hcx2.out];(repeat(first|exact List.Sublist.refl _|with_reducible apply List.Sublist.cons_cons|apply List.Sublist.cons))
     all_goals exact Qf
 · have hii:i=tests.length:=by omega
   subst hii
   rw[List.take_length]
   clear hpc hi hlt
   generalize hT0:(tests.filter fun t=>decide (t.kind<5)).map Ts.cells=T0 at *
   cases R with
   | none =>
    dsimp only[FH,Option.isSome] at *
    repeat' (first|refine QV ?_|((with_reducible refine Cm (id:=8) [(pb,[.i tm,.b false,.sl o T0])] ?_ ?_ ?_ ?_ ?_);(iterate 3 (focus kernel_rfl));(focus((repeat(first|exact An|refine Aw q_m ?_));done)))|((with_reducible refine And.intro ?_ ?_);(focus exact q_k))|refine QY ?_|(refine QB ?_;intro b)|(refine QP ?_;intro o' ho')|(with_reducible refine QZ ?_<;>(try constructor)<;>intro hb<;>try intro hb1)|refine Qc Tryz.call20 ((hEm.out _)) ?_|refine QL Tryz.call17 ((hPa.out _)) ?_|fail)
    all_goals exact Ar
   | some e =>
    dsimp only[FH,Option.isSome] at *
    repeat' (first|refine QV ?_|((with_reducible refine Cm (id:=8) [(pb,[.i tm,.b false,.sl o T0])] ?_ ?_ ?_ ?_ ?_);(iterate 3 (focus kernel_rfl));(focus((repeat(first|exact An|refine Aw q_m ?_));done)))|((with_reducible refine And.intro ?_ ?_);(focus exact q_k))|refine QY ?_|(refine QB ?_;intro b)|(refine QP ?_;intro o' ho')|(with_reducible refine QZ ?_<;>(try constructor)<;>intro hb<;>try intro hb1)|refine Qc Tryz.call20 ((hEm.out _)) ?_|refine QL Tryz.call17 ((hPa.out _)) ?_|fail)
    all_goals exact Ar
end
section
def WL (P:Program)(g:FuncId)(caps:List D){X:Type}(args:X→List D)(L:List X)(K0:St)(Kend:St→Prop)(Kstop:Nat→St→Prop)(Pr:St→Prop):Prop :=
 ∀(l:Nat) (C:St) (J Jx:Nat→St→Prop),El P l args L J Jx→(∀i C',J i C'→Pr C')→J 0 C→TrF P g (.fn (.yield l) [] []::caps) (K0++C) fun _ st'=>∃K1 C',st'=K1++C'∧((Kend K1∧J L.length C')∨∃i,Kstop i K1∧Jx i C')
section
variable {P:Program} {N:Nat} {r:Option Nat} {A:AA} {st:St} {w:World} {Q:Exit→AA→St→Prop} {m:Option Ro} {k:D→St→Prop} {dst:Option Tmp} {ty:TypeId} {pos:String} {aft:Array Edge} {gd:Option (Nat×Bool)} {o:Oper}
theorem FY{X:Type}{g:Operand}{ps:Array Tmp}{assign body:Code}{gf:FuncId}{caps:List D}{args:X→List D}{L:List X}{K0 C:St}{Kend:St→Prop}{Kstop:Nat→St→Prop}{Pr:St→Prop}
 (hit:WL P gf caps args L K0 Kend Kstop Pr)(hent:∀args w,(callFunc gf args).run P w=.ok (.enter gf args) w)(hg:ev A.e g=some (.fn (.func gf) [] caps))(hps:∀x,(args x).length=ps.size)(hpN:ps.toList.all (fun t=>decide (t<N))=true)
 (J:Nat→St→Prop)(Jx:Code→Nat→St→Prop)(hpr:∀C B,Pr C→Pr (C++B))(hJp:∀i C,J i C→Pr C)(h0:J 0 C)
 (hround:∀l i x C K,L[i]?=some x→J i C→Tr P N (some l) assign (Mj ⟨A.e,[]⟩ ps.toList (args x)) (C++K) (DI (fun A' st'=>∃C1,(C1++K).Sublist st'∧∀K',Tr P N (some l) body A' (C1++K') (Mr K' (i+1) J Jx)) (fun _ _ _=>False)))
 (hdone:∀d K1 C',Kend K1→J L.length C'→Q .normal ⟨A.e,BV d::A.df⟩ (Al d::(K1++C')))
 (hstop:∀c d i K1 C',Kstop i K1→Jx c i C'→Tr P N none c ⟨A.e,BV d::A.df⟩ (Al d::(K1++C')) Q) :
 Tr P N none (.rangeFunc g ps assign body) A (K0++C) Q:=by
 intro a w h1 h2
 have hr:=JZ h1 hg
 generalize hgv:a.eval g=gv at hr
 cases hr with
|fn _ us1 us2 _ _ l1 l2 r1 r2 =>
 obtain rfl:us1=[]:=List.eq_nil_of_length_eq_zero l1
 refine wpIn_rangeFunc fun fn hfn=>?_
 obtain⟨d,hd⟩:∃d,d=w.heap.size:=⟨_,rfl⟩
 obtain⟨rec,hrec⟩:∃rec,rec=Mz fn a.tmps ps assign body d:=⟨_,rfl⟩
 have n1:=Dt h2 (Res.raw d (.deferred (some []))) (fun b e=>by cases e;exact hd) (.deferred (some [])) (fun _=>by rw[hd];exact heap_alloc_new w _)
 obtain⟨w1,hw1⟩:∃w1,w1=w.alloc (.deferred (some [])):=⟨_,rfl⟩
 rw[←hw1] at n1
 have hs1:w1.heap.size=d+1:=by rw[hw1,hd];simp
 have n2:=Dt n1.1 (Res.raw (d+1) (.loop (rec .ready none))) (fun b e=>by cases e;exact hs1.symm) (.loop (rec .ready none)) (fun _=>by rw[←hs1];exact heap_alloc_new w1 _)
 obtain⟨W1,hW1⟩:∃W1,W1=w1.alloc (.loop (rec .ready none)):=⟨_,rfl⟩
 rw[←hW1] at n2
 obtain⟨tm,htm⟩:∃tm:Nat→Value,tm=fun t=>a.tmps.getD t undef:=⟨_,rfl⟩
 have n3:=n2.1.know (f:=tm) (e:=A.e) (fun t=>by rw[htm];exact((h1.ext n1.2).ext n2.2).2.2 t)
 obtain⟨B,hB⟩:∃B:LoopState→Option Code→St,B=fun s pe=>[Res.raw (d+1) (.loop (rec s pe)),Res.raw d (.deferred (some [])),Res.know tm A.e]:=⟨_,rfl⟩
 have hp:(Res.know tm A.e::Res.raw (d+1) (.loop (rec .ready none))::Res.raw d (.deferred (some []))::(K0++C)).Perm (K0++(C++B .ready none)):=by rw[hB];exact Ie
 have E3:Ext (OwnS (K0++C)) w (OwnS (K0++(C++B .ready none))) W1:=by rw[←OwnS.perm hp];exact n1.2.trans (n2.2.trans n3.2)
 have H3:=n3.1.perm hp
 have hnl:∀(x:Loop) c E fr,Obj.loop x≠.cells c E fr:=fun _ _ _ _ e=>by cases e
 have hY:El P (d+1) args L (fun i C'=>∃C,C'=C++B .ready none∧J i C) (fun i C'=>∃c C,C'=C++B .done (some c)∧Jx c i C):=by
  rintro i x C' K hx ⟨Cn,rfl,hJ⟩ vs w2 hv hh
  rw[List.append_assoc] at hv hh
  have hl:w2.heap[d+1]?=some (.loop (rec .ready none)):=hh.2 (Res.raw (d+1) (.loop (rec .ready none))) (by rw[hB];simp)
  have hkn:∀t,Rep (OwnS (Cn++(B .ready none++K))) w2 (tm t) (A.e t):=hh.2 (Res.know tm A.e) (by rw[hB];simp)
  have hy:=run_yield (P:=P) (args:=vs) hl (by rw[hrec,←Array.length_toList,hv.1];exact hps x)
  rw[hrec] at hy
  refine⟨fn,_,assign,body,hy,roundIn_of_wpIn hfn ?_⟩
  clear hy
  have hz:(ps.zip vs).foldl (fun tmps (t,a)=>tmps.setIfInBounds t a) a.tmps=(ps.toList.zip vs.toList).foldl (fun t (p,v)=>t.setIfInBounds p v) a.tmps:=by
   rw[←Array.foldl_toList,Array.toList_zip]
  have hrel:RelA N (OwnS (Cn++(B .ready none++K))) w2 ⟨(ps.zip vs).foldl (fun tmps (t,a)=>tmps.setIfInBounds t a) a.tmps,[]⟩ (Mj ⟨A.e,[]⟩ ps.toList (args x)):=by
   rw[hz]
   refine GX _ _ _ _ _ (fun p hp=>by simpa using List.all_eq_true.1 hpN p hp) ⟨h1.1,rfl,fun t=>?_⟩ hv
   have:=hkn t
   rw[htm] at this
   exact this
  refine wpIn_mono (hround (d+1) i x Cn (B .ready none++K) hx hJ _ w2 hrel hh) ?_
  rintro e a3 w3 ⟨A3,st3,k1,k2,k3,k4⟩
  cases e with
  | normal =>
   obtain⟨C1,hsub,hbody⟩:=k4
   have e3:=Ext.drop (fun _ h=>hsub.subset h) w3
   have H4:=k2.sub hsub
   have hl3:w3.heap[d+1]?=some (.loop (rec .ready none)):=H4.2 (Res.raw (d+1) (.loop (rec .ready none))) (by rw[hB];simp)
   refine⟨_,run_beginRound hl3 (by rw[hrec]),?_⟩
   have q:=Dj (C:=C1) (T:=[Res.raw d (.deferred (some [])),Res.know tm A.e]++K) (o':=.loop {rec .ready none with state:=.busy}) (by rw[hB] at H4;exact H4) (hnl _)
   have hbz:C1++(Res.raw (d+1) (.loop {rec .ready none with state:=.busy})::([Res.raw d (.deferred (some [])),Res.know tm A.e]++K))=C1++(B .busy none++K):=by rw[hB,hrec];rfl
   have hbr:C1++(Res.raw (d+1) (.loop (rec .ready none))::([Res.raw d (.deferred (some [])),Res.know tm A.e]++K))=C1++(B .ready none++K):=by rw[hB];rfl
   rw[hbz] at q
   rw[hbr] at q
   have E4:=(k3.trans e3).trans q.2
   refine wpIn_mono (hbody (B .busy none++K) _ _ ((k1.ext e3).ext q.2) q.1) ?_
   have fin:∀(jump:Option Code) (C5 st5:St) (w5:World),(C5++(B .busy none++K)).Sublist st5→Holds st5 w5→Ext (OwnS (C1++(B .busy none++K))) (w3.putObj (d+1) (.loop {rec .ready none with state:=.busy})) (OwnS st5) w5 →
    (Instr.endRound (d+1) jump).run P w5=.ok (.bool jump.isNone) (w5.putObj (d+1) (.loop (rec (if jump.isNone then .ready else .done) jump))) ∧
    Holds (C5++B (if jump.isNone then .ready else .done) jump++K) (w5.putObj (d+1) (.loop (rec (if jump.isNone then .ready else .done) jump))) ∧
    Ext (OwnS (Cn++B .ready none++K)) w2 (OwnS (C5++B (if jump.isNone then .ready else .done) jump++K)) (w5.putObj (d+1) (.loop (rec (if jump.isNone then .ready else .done) jump))):=fun jump C5 st5 w5 hs5 hh5 he5=>by
    have e5:=Ext.drop (fun _ h=>hs5.subset h) w5
    have H6:=hh5.sub hs5
    have hl5:w5.heap[d+1]?=some (.loop (rec .busy none)):=H6.2 (Res.raw (d+1) (.loop (rec .busy none))) (by rw[hB];simp)
    have hr5:=run_endRound (P:=P) jump hl5
    rw[hrec] at hr5 ⊢
    have q5:=Dj (C:=C5) (T:=[Res.raw d (.deferred (some [])),Res.know tm A.e]++K) (o':=.loop (Mz fn a.tmps ps assign body d (if jump.isNone then .ready else .done) jump)) (by rw[hB] at H6;exact H6) (hnl _)
    have hbz5:C5++(Res.raw (d+1) (.loop (Mz fn a.tmps ps assign body d (if jump.isNone then .ready else .done) jump))::([Res.raw d (.deferred (some [])),Res.know tm A.e]++K))=C5++B (if jump.isNone then .ready else .done) jump++K:=by rw[hB,hrec,List.append_assoc];rfl
    have hbr5:C5++(Res.raw (d+1) (.loop (rec .busy none))::([Res.raw d (.deferred (some [])),Res.know tm A.e]++K))=C5++(B .busy none++K):=by rw[hB];rfl
    rw[hbz5] at q5
    rw[hbr5] at q5
    refine⟨hr5,q5.1,?_⟩
    rw[show Cn++B .ready none++K=Cn++(B .ready none++K) by rw[List.append_assoc]]
    exact(E4.trans (he5.trans e5)).trans q5.2
   rintro e a5 w5 ⟨A5,st5,m1,m2,m3,m4⟩
   cases e with
   | normal =>
    obtain⟨C5,hs5,hJ5⟩:=m4
    obtain⟨f1,f2,f3⟩:=fin none C5 st5 w5 hs5 m2 m3
    exact⟨_,_,f1,_,rfl,.s (.bool true),_,.s _ rfl,f2,f3,_,rfl,.inl ⟨rfl,C5,rfl,hJ5⟩⟩
   | ret =>
    obtain⟨C5,hs5,hJ5⟩:=m4
    obtain⟨f1,f2,f3⟩:=fin (some .ret) C5 st5 w5 hs5 m2 m3
    exact⟨_,_,f1,_,rfl,.s (.bool false),_,.s _ rfl,f2,f3,_,rfl,.inr ⟨rfl,.ret,C5,rfl,hJ5⟩⟩
   | exit id =>
    obtain⟨C5,hs5,hJ5⟩:=m4
    obtain⟨f1,f2,f3⟩:=fin (some (.exit id)) C5 st5 w5 hs5 m2 m3
    exact⟨_,_,f1,_,rfl,.s (.bool false),_,.s _ rfl,f2,f3,_,rfl,.inr ⟨rfl,.exit id,C5,rfl,hJ5⟩⟩
   | goto t =>
    obtain⟨C5,hs5,hJ5⟩:=m4
    obtain⟨f1,f2,f3⟩:=fin (some (.goto t)) C5 st5 w5 hs5 m2 m3
    exact⟨_,_,f1,_,rfl,.s (.bool false),_,.s _ rfl,f2,f3,_,rfl,.inr ⟨rfl,.goto t,C5,rfl,hJ5⟩⟩
   | panic c=>exact m4.elim
   | outgrown=>exact m4.elim
  | exit id=>exact k4.elim
  | goto t=>exact k4.elim
  | ret=>exact k4.elim
  | panic c=>exact k4.elim
  | outgrown=>exact k4.elim
 refine⟨d+1,[BV d],W1,{target:=.fn (.func gf) us2.toArray,args:=#[.func (.yield (d+1)) #[] #[]]},W1,gf,#[.func (.yield (d+1)) #[] #[]]++us2.toArray,W1,?_,?_,fun _ _=>trivial,?_,(fun h=>by cases h),?_⟩
 · rw[hW1,hrec,hw1,hd]
   exact run_enterLoop_outer _ _ _ _ _
 · simp only[resolve,hgv]
   simp[go_sem]
 · simp[invoke,go_sem,hent]
 · have hcall := hit (d + 1) (C ++ B .ready none) _ _ hY (fun i C' ⟨C0, e, h⟩ => by rw [e]; exact hpr _ _ (hJp _ _ h)) ⟨C, rfl, h0⟩ (#[.func (.yield (d + 1)) #[] #[]] ++ us2.toArray) W1 (by
    have hvs:(#[Value.func (.yield (d+1)) #[] #[]]++us2.toArray).toList=Value.func (.yield (d+1)) #[] #[]::us2:=by simp
    rw[hvs]
    refine RepL.cons ?_ ?_
    · exact .fn (.yield (d+1)) [] [] [] [] rfl rfl (fun i h=>absurd h (Nat.not_lt_zero _)) (fun i h=>absurd h (Nat.not_lt_zero _))
    · exact⟨l2,fun i h h'=>(r2 i h h').ext E3⟩) H3
   refine(callsIn_wide.2 hcall).mono ?_
   rintro e w2 ⟨v,rfl,dd,st2, -,q2,q3,K1,C2,rfl,⟨hk,Cn,rfl,hJ⟩|⟨i,hk,c,Cn,rfl,hJ⟩⟩
   · have hl:w2.heap[d+1]?=some (.loop (rec .ready none)):=q2.2 (Res.raw (d+1) (.loop (rec .ready none))) (by rw[hB];simp)
     have hend:(Instr.endLoop (d+1)).run P w2=.ok none (w2.putObj (d+1) (.loop {rec .ready none with state:=.exhausted})):=by
      subst hrec;exact run_endLoop (P:=P) hl (by simp)
     have q2':Holds ((K1++Cn)++Res.raw (d+1) (.loop (rec .ready none))::[Res.raw d (.deferred (some [])),Res.know tm A.e]) w2:=by rw[hB,←List.append_assoc] at q2;exact q2
     have q:=Dj (o':=.loop {rec .ready none with state:=.exhausted}) q2' (hnl _)
     have hsub:(Al d::(K1++Cn)).Sublist (Al d::(K1++Cn++[Res.raw (d+1) (.loop {rec .ready none with state:=.exhausted}),Res.know tm A.e])):=(List.sublist_append_left _ _).cons_cons _
     have hpm:(K1++Cn++Res.raw (d+1) (.loop {rec .ready none with state:=.exhausted})::[Res.raw d (.deferred (some [])),Res.know tm A.e]).Perm (Al d::(K1++Cn++[Res.raw (d+1) (.loop {rec .ready none with state:=.exhausted}),Res.know tm A.e])):=by
      refine(List.Perm.append_left _ (.swap _ _ _)).trans ?_
      exact List.perm_middle
     have hq3:Ext (OwnS (K0++C)) w (OwnS ((K1++Cn)++Res.raw (d+1) (.loop (rec .ready none))::[Res.raw d (.deferred (some [])),Res.know tm A.e])) w2:=by
      have:=E3.trans q3
      rw[hB,←List.append_assoc] at this
      exact this
     have Ef:Ext (OwnS (K0++C)) w (OwnS (Al d::(K1++Cn))) (w2.putObj (d+1) (.loop {rec .ready none with state:=.exhausted})):=by
      refine((hq3.trans q.2).trans ?_)
      rw[OwnS.perm hpm]
      exact Ext.drop (fun _ h=>hsub.subset h) _
     exact⟨none,_,hend,⟨A.e,BV d::A.df⟩,_,⟨h1.1,by show BV d::a.defers=BV d::A.df;rw[h1.2.1],fun t=>(h1.2.2 t).ext Ef⟩,(q.1.perm hpm).sub hsub,Ef,hdone d K1 Cn hk hJ⟩
   · have hl:w2.heap[d+1]?=some (.loop (rec .done (some c))):=q2.2 (Res.raw (d+1) (.loop (rec .done (some c)))) (by rw[hB];simp)
     have hend:(Instr.endLoop (d+1)).run P w2=.ok (some c) (w2.putObj (d+1) (.loop {rec .done (some c) with state:=.exhausted})):=by
      subst hrec;exact run_endLoop (P:=P) hl (by simp)
     have q2':Holds ((K1++Cn)++Res.raw (d+1) (.loop (rec .done (some c)))::[Res.raw d (.deferred (some [])),Res.know tm A.e]) w2:=by rw[hB,←List.append_assoc] at q2;exact q2
     have q:=Dj (o':=.loop {rec .done (some c) with state:=.exhausted}) q2' (hnl _)
     have hsub:(Al d::(K1++Cn)).Sublist (Al d::(K1++Cn++[Res.raw (d+1) (.loop {rec .done (some c) with state:=.exhausted}),Res.know tm A.e])):=(List.sublist_append_left _ _).cons_cons _
     have hpm:(K1++Cn++Res.raw (d+1) (.loop {rec .done (some c) with state:=.exhausted})::[Res.raw d (.deferred (some [])),Res.know tm A.e]).Perm (Al d::(K1++Cn++[Res.raw (d+1) (.loop {rec .done (some c) with state:=.exhausted}),Res.know tm A.e])):=by
      refine(List.Perm.append_left _ (.swap _ _ _)).trans ?_
      exact List.perm_middle
     have hq3:Ext (OwnS (K0++C)) w (OwnS ((K1++Cn)++Res.raw (d+1) (.loop (rec .done (some c)))::[Res.raw d (.deferred (some [])),Res.know tm A.e])) w2:=by
      have:=E3.trans q3
      rw[hB,←List.append_assoc] at this
      exact this
     have Ef:Ext (OwnS (K0++C)) w (OwnS (Al d::(K1++Cn))) (w2.putObj (d+1) (.loop {rec .done (some c) with state:=.exhausted})):=by
      refine((hq3.trans q.2).trans ?_)
      rw[OwnS.perm hpm]
      exact Ext.drop (fun _ h=>hsub.subset h) _
     exact⟨some c,_,hend,wpIn_mono (hstop c d i K1 Cn hk hJ _ _ ⟨h1.1,by show BV d::a.defers=BV d::A.df;rw[h1.2.1],fun t=>(h1.2.2 t).ext Ef⟩ ((q.1.perm hpm).sub hsub)) fun _ _ _=>PostA.ext Ef⟩
end
end
section
attribute [local push_cast] Ad Ae Ao V.cells_mk V.cells_len Nat.mul_one Int.sub_zero List.map_nil beq_self_eq_true bne_self_eq_false List.head?_cons Bool.not_true Bool.not_false Nat.zero_add
theorem patsF(c:Nat)(st:St):TrF Tryz.prog 98 [.ptr c 0] st fun d st'=>d=.fn (.func 139) [] [.ip [.ptr c 0]]∧st'=st:=by
 refine Qin [2] Tryz.func98 Tryz.results98 Tryz.ntmps98 ?_
 exact WR
def HasC (c g n cap:Nat)(C:St):Prop:=∃C',C.Perm (.box c 109 [.ar g 0 n cap]::C')
theorem HasC.app{c g n cap:Nat}(C B:St)(h:HasC c g n cap C):HasC c g n cap (C++B):=by
 obtain⟨C',h⟩:=h
 exact⟨C'++B,h.append_right B⟩
def Kc (n:Nat):List Nat:=(List.range (n - 1)).reverse
theorem EN(n:Nat):(Kc n).length=n - 1:=by unfold Kc;rw[List.length_reverse,List.length_range]
theorem Kb{n i:Nat}(h:i<n - 1):(Kc n)[i]?=some (n - 2 - i):=by
 unfold Kc
 rw[List.getElem?_reverse (by rw[List.length_range];exact h),List.length_range,List.getElem?_range q_o]
 exact congrArg some q_o
theorem NH(c g n cap:Nat)(hn:n≤5)(hn1:1≤n)(hc:n≤cap):WL Tryz.prog 139 [.ip [.ptr c 0]] (fun k=>[D.ptr g (k*9)]) (Kc n) [] (fun R=>R=[]) (fun _ R=>R=[]) (HasC c g n cap):=by
 intro l C J Jx hY hPr hJ
 obtain⟨J',hJ'⟩:∃J':Nat→St→Prop,J'=fun i C0=>∃C',J i C'∧C0.Perm C':=⟨_,rfl⟩
 have HY:Hid (El Tryz.prog l (fun k=>[D.ptr g (k*9)]) (Kc n) J' Jx):=by
  subst hJ'
  rintro i x C0 K hx ⟨C',h1,h2⟩
  refine RoundC.perm (h2.append_right K) (hY i x C' K hx h1) ?_
  rintro d s ⟨C1,rfl,⟨e,h⟩|⟨e,h⟩⟩
  · exact⟨_,.refl _,C1,rfl,.inl ⟨e,C1,h,.refl _⟩⟩
  · exact⟨_,.refl _,C1,rfl,.inr ⟨e,h⟩⟩
 have HP:Hid (∀i C0,J' i C0→∃C',C0.Perm (.box c 109 [.ar g 0 n cap]::C')∧J' i (.box c 109 [.ar g 0 n cap]::C')):=by
  subst hJ'
  rintro i C0 ⟨C1,h1,h2⟩
  obtain⟨C',h3⟩:=hPr i C1 h1
  exact⟨C',h2.trans h3,C1,h1,h3.symm⟩
 have HE:Hid (∀C0,J' (n - 1) C0→∃C1,J (Kc n).length C1∧C0.Perm C1):=by
  subst hJ'
  rintro C0 ⟨C1,h1,h2⟩
  exact⟨C1,by rw[EN];exact h1,h2⟩
 have H0:Hid (J' 0 C):=by
  subst hJ'
  exact⟨C,hJ,.refl _⟩
 clear hY hJ hPr hJ'
 refine Qin [] Tryz.func139 Tryz.results139 Tryz.ntmps139 ?_
 obtain⟨C',hC',H1⟩:=HP.out 0 C H0.out
 refine Af (st':=.box c 109 [.ar g 0 n cap]::C') hC' ?_
 replace H1:=Lib.hid H1
 clear H0 hC'
 repeat' (first|refine QX ?_|(refine QB ?_;intro b)|(with_reducible refine QZ ?_<;>(try constructor)<;>intro hb<;>try intro hb1)|fail)
 refine Aj (ι:=Nat) (fun i A st'=>∃(C':St) (z:Int),i≤n - 1∧Hid (J' i C')∧A.df=[]∧A.e 0=.fn (.yield l) [] []∧A.e 1=.ip [.ptr c 0]∧A.e 3=.i z∧z+2+i=n∧st'=C') (fun i=>n - 1 - i) 0 ⟨_,(n:Int) - 2,Nat.zero_le _,H1,Qf,Qf,Qf,Qf,by omega,rfl⟩ ?_
 clear H1
 rintro i A st' ⟨C2,z,hi,HJ,hdf,e0,e1,e3,hz,rfl⟩
 by_cases hlt:i<n - 1
 · have hx:=Kb hlt
   obtain⟨k,hk⟩:∃k,k=n - 2 - i:=⟨_,rfl⟩
   rw[←hk] at hx
   obtain rfl:z=(k:Int):=by omega
   have hkn:k<n:=by omega
   obtain⟨C3,h1,h2⟩:=HP.out i _ HJ.out
   refine Af h1 ?_
   replace h2:=Lib.hid h2
   clear h1 HJ HE
   have hz2:Hid ((k:Int)+2+i=n):=hz
   clear hk hz
   repeat' (first|refine QV ?_|((with_reducible apply(Jk (f:=fun x=>x) (K:=[]) HY.out h2.out hx));(focus exact q_v);(focus exact q_v);(focus first|exact LEL.refl _);(focus exact fun _=>rfl);all_goals(intro C' hC'))|refine QY ?_|(refine QB ?_;intro b)|(with_reducible refine QZ ?_<;>(try constructor)<;>intro hb<;>try intro hb1)|fail)
   rotate_left
   · exact Ab q_x q_y q_u (LE.refl _) ⟨[],C',rfl,.inr ⟨_,rfl,hC'⟩⟩
   refine⟨i+1,C',q_t,⟨C',(k:Int) - 1,hlt,Lib.hid hC',?_,?_,?_,?_,(by have:=hz2.out;omega),rfl⟩,by omega⟩
   all_goals exact Qf
 · have hil:i=n - 1:=by omega
   subst hil
   obtain⟨C1,h1,h2⟩:=HE.out _ HJ.out
   obtain rfl:z = -1:=by omega
   refine Af h2 ?_
   clear h2 HJ HE HP HY hz
   repeat' (first|refine QX ?_|(refine QB ?_;intro b)|(with_reducible refine QZ ?_<;>(try constructor)<;>intro hb<;>try intro hb1)|fail)
   exact Ab q_x q_y q_u (LE.refl _) ⟨[],C1,rfl,.inl ⟨rfl,h1⟩⟩
end
section
attribute [local push_cast] Ad Ae Ao V.cells_mk V.cells_len Nat.mul_one Int.sub_zero List.map_nil beq_self_eq_true bne_self_eq_false List.head?_cons Bool.not_true Bool.not_false Nat.zero_add
attribute [-instance] Aq Av Am AV
theorem NC.layN{S Sj:NC}{w:Tok}{Hj:List Tok}{k:Nat}{x:Nd}(hK:Nt.Kept S Sj)(hx:S.ns[k]?=some x)(hp:Sj.H.Perm (w::Hj))(s:St):∃(ROWj UC:List D) (RJ:St),(Sj.st++s).Perm (.box S.c 109 [.ar S.g 0 S.ns.length S.cap]::.box S.g 115 ROWj::.box w.b 119 ([w.fromD,.i w.lv,.i w.id,.sl .shared (w.env.map V.cells)]++UC)::RJ)∧List.take 3 (List.drop (k*9) ROWj)=x.p.cells∧k*9+9≤ROWj.length:=by
 obtain⟨y,y1,y2,y3⟩:=hK.ns k x hx
 have e1:Sj.cbox=.box S.c 109 [.ar S.g 0 S.ns.length S.cap]:=by unfold NC.cbox;rw[hK.c,hK.g,hK.cap,hK.nl]
 have e2:Sj.gbox=.box S.g 115 (Az Sj.ns++Sj.zs):=by unfold NC.gbox;rw[hK.g]
 have e3:w.cells=[w.fromD,.i w.lv,.i w.id,.sl .shared (w.env.map V.cells)]++(w.km.cells w.kids.length++[.i w.count]):=rfl
 have hs:Az Sj.ns++Sj.zs=Az (Sj.ns.take k)++(x.p.cells++((y.fm.cells y.fs.length++y.tm.cells y.ts.length)++(Az (Sj.ns.drop (k+1))++Sj.zs))):=by
  rw[CX y1]
  unfold Nd.cells
  rw[y2]
  simp only[List.append_assoc]
 have hl:=Dz y1
 have hpc:x.p.cells=[.i x.p.tmpl,.b x.p.neg,.sl .shared (x.p.tests.map Ts.cells)]:=rfl
 refine⟨Az Sj.ns++Sj.zs,w.km.cells w.kids.length++[.i w.count],Sj.rest Hj w s,?_,?_,?_⟩
 · have:=NC.view hp s
   rwa[e1,e2,e3] at this
 · rw[hs,←hl,List.drop_left,hpc];rfl
 · rw[List.length_append,AZ]
   have:=(List.getElem?_eq_some_iff.1 y1).1
   omega
theorem NI(S:NC)(k:Nat)(x:Nd)(f:Fc)(B:Res)(G:FuncId)(caps:List D)(J:Nat→NC→Prop)(hx:S.ns[k]?=some x)(hS:Nt.Str S [])(hf:FK f)(hent:Hid (∀args w,(callFunc G args).run Tryz.prog w=.ok (.enter G args) w))(h0:J 0 S)(hJs:∀j Sj,J j Sj→Nt.Str Sj []∧Nt.Kept S Sj)(hJw:∀(j b:Nat) Sj,x.ts[j]?=some b→J j Sj→∃w∈Sj.H,w.b=b)
 (hnone:∀(j b:Nat) Sj w,x.ts[j]?=some b→J j Sj→w∈Sj.H→w.b=b→Mat.pass x.p f w.env=none→J (j+1) Sj)
 (hsome:∀(j b:Nat) Sj w e,x.ts[j]?=some b→J j Sj→w∈Sj.H→w.b=b→Mat.pass x.p f w.env=some e→∀st,TrF Tryz.prog G (.ptr b 0::.sl .shared (e.map V.cells)::caps) (B::(Sj.st++st)) fun d st'=>∃S',J (j+1) S'∧d=.tup []∧(B::(S'.st++st)).Perm st')
 (st:St):TrF Tryz.prog 100 [.ptr S.g (k*9),.agg f.cells,.fn (.func G) [] caps] (B::(S.st++st)) fun d st'=>∃S',J x.ts.length S'∧d=.tup []∧(B::(S'.st++st)).Perm st':=by
 have hxm:=List.mem_of_getElem? hx
 have hpk:=(hS.pk x hxm).1
 have htl:=Nt.ts_len hS hx
 have hall:Hid (TrF Tryz.prog 104 [.ptr S.g (k*9+6)] (B::(S.st++st)) fun d st'=>d=.fn (.func 141) [] [.ip [.sl .shared (Cr x.ts)]]∧(B::(S.st++st)).Perm st'):=by
  have h6:=(((NC.at_T hx).append_right st).cons B)
  simp only[List.cons_append,List.append_assoc] at h6
  have h7:=h6.trans (BH _ _ _ _)
  have h8:=IR S.g 115 (Fe S.ns k x) (CO S.ns k S.zs) x.tm x.ts (hS.okx x hxm).2 htl (B::(x.fm.resF x.fs++(S.off k++st)))
  rw[FF hx] at h8
  exact(TrF.perm h7 h8).mono fun d st' ⟨e1,e2⟩=>⟨e1,by rw[e2];exact h7⟩
 have hIt:=Lib.hid (IQ x.ts htl)
 have hJ0:Hid (J 0 S):=h0
 have HS:Hid _:=hsome
 have HN:Hid _:=hnone
 have HW:Hid _:=hJw
 have HJ:Hid _:=hJs
 have hPs:Hid (∀(e:List V),EK e→∀st,TrF Tryz.prog 17 [.agg x.p.cells,.agg f.cells,.sl .shared (e.map V.cells)] st fun d st'=>d=FH (Mat.pass x.p f e)∧st'=st):=fun e he st=>JG x.p f e hpk.v hpk.l hf he.v he.l .shared st
 clear hsome hnone hJw hJs h0 hS hxm hpk
 rw[show f.cells=[.i f.id,.i f.time,.i f.tmpl,.i f.ver,.sl .shared (f.s.map V.cells)] from rfl] at *
 generalize f.s.map V.cells=VS at *
 generalize hST:S.st++st=ST at *
 refine Qin [] Tryz.func100 Tryz.results100 Tryz.ntmps100 ?_
 repeat' (first|refine QV ?_|((with_reducible apply(Ah (f:=104) (henter:=Tryz.call104) (hp:=List.Perm.refl _) (h:=hall.out)));(focus exact q_v);(focus(first|exact LEL.refl _|((repeat' (first|exact LEL.nil|refine LEL.cons ?_ ?_|exact LE.refl _|exact LE.sl _ _|refine LE.agg ?_));done)));(rintro d0 st0 ⟨rfl,hp3⟩))|refine QY ?_|(refine QB ?_;intro b)|(with_reducible refine QZ ?_<;>(try constructor)<;>intro hb<;>try intro hb1)|fail)
 refine Af (st':=[]++(B::(S.st++st))) (by rw[List.nil_append,hST];exact hp3.symm) ?_
 clear hp3 hall
 refine Dx hIt.out Tryz.call141 q_v (fun _=>rfl) rfl (fun j C=>∃Sj,J j Sj∧C=B::(Sj.st++st)) (fun _ _ _=>False) ⟨S,hJ0.out,rfl⟩ ?_ ?_ (fun _ _ _ _ _ _ h=>h.elim)
 · rintro l j b C K hb ⟨Sj,hJ,rfl⟩
   obtain⟨w,w1,w2⟩:=HW.out j b Sj hb hJ
   obtain⟨hSj,hKj⟩:=HJ.out j Sj hJ
   obtain⟨Hj,hpj⟩:=Nt.tok_split w1
   have hPw:=hPs.out w.env (hSj.ek w w1)
   have hNw:=HN.out j b Sj w hb hJ w1 w2
   have hSw:=HS.out j b Sj w
   clear hIt hJ0 HW HJ HN HS hPs
   refine(?_:Tr _ _ _ _ (AA.put ⟨_,[]⟩ (some 13) (.ptr b 0)) (B::((Sj.st++st)++K)) _)
   repeat' (first|refine QX ?_|(refine QB ?_;intro b)|(with_reducible refine QZ ?_<;>(try constructor)<;>intro hb<;>try intro hb1)|fail)
   refine⟨B::(Sj.st++st),List.Sublist.refl _,fun K'=>?_⟩
   clear K
   obtain⟨ROWj,UC,RJ,v1,v2,v3⟩:=NC.layN hKj hx hpj (st++K')
   rw[w2] at v1
   have v4:(B::(Sj.st++(st++K'))).Perm (.box S.c 109 [.ar S.g 0 S.ns.length S.cap]::.box S.g 115 ROWj::.box b 119 ([w.fromD,.i w.lv,.i w.id,.sl .shared (w.env.map V.cells)]++UC)::B::RJ):=(v1.cons B).trans (BH B _ [_,_] _)
   refine De ?_
   refine Af (st':=.box S.c 109 [.ar S.g 0 S.ns.length S.cap]::.box S.g 115 ROWj::.box b 119 ([w.fromD,.i w.lv,.i w.id,.sl .shared (w.env.map V.cells)]++UC)::B::RJ) (by
    show List.Perm (_::((Sj.st++st)++K')) _
    rw[List.append_assoc]
    exact v4) ?_
   have v7:3≤(List.drop (k*9) ROWj).length:=by rw[List.length_drop];omega
   have hpc:x.p.cells=[.i x.p.tmpl,.b x.p.neg,.sl .shared (x.p.tests.map Ts.cells)]:=rfl
   rw[hpc] at *
   cases hq:Mat.pass x.p f w.env with
   | none =>
    have hJn:=Lib.hid (hNw hq)
    rw[hq] at hPw
    dsimp only[FH] at hPw
    replace v4:=Lib.hid v4
    clear hq hJ hKj hpj w1 hb v1 hNw hSw hpc w2 hSj hent
    generalize w.env.map V.cells=TE at *
    generalize w.fromD=fd at *
    generalize x.p.tests.map Ts.cells=TS at *
    replace hPw:=Lib.hid hPw
    repeat' (first|refine QV ?_|((with_reducible apply(Bf (id:=3) [(S.g,ROWj),(b,[fd,.i w.lv,.i w.id,.sl .shared TE]++UC)]));(iterate 3 (focus kernel_rfl));(focus exact q_k);intro hne;(try simp only[nes,ne1,and_assoc] at hne);repeat(have hq:=hne.1;replace hne:=hne.2))|((with_reducible refine And.intro ?_ ?_);(focus exact q_k))|(with_reducible refine Bl ?_)|refine QY ?_|(refine QB ?_;intro b)|(with_reducible refine QZ ?_<;>(try constructor)<;>intro hb<;>try intro hb1)|refine Qc Tryz.call17 ((hPw.out _)) ?_|fail)
    exact⟨(B::(Sj.st++st))++K',by rw[show(B::(Sj.st++st))++K'=B::(Sj.st++(st++K')) from by rw[List.cons_append,List.append_assoc]];exact v4.out.symm,_,List.Sublist.refl _,Sj,hJn.out,rfl⟩
   | some e =>
    have hdo:=Lib.hid (hSw e hb hJ w1 w2 hq (st++K'))
    rw[hq] at hPw
    dsimp only[FH] at hPw
    replace v4:=Lib.hid v4
    clear hq hJ hKj hpj w1 hb v1 hNw hSw hpc w2 hSj
    generalize w.env.map V.cells=TE at *
    generalize w.fromD=fd at *
    generalize x.p.tests.map Ts.cells=TS at *
    replace hPw:=Lib.hid hPw
    repeat' (first|refine QV ?_|((with_reducible apply(Bf (id:=3) [(S.g,ROWj),(b,[fd,.i w.lv,.i w.id,.sl .shared TE]++UC)]));(iterate 3 (focus kernel_rfl));(focus exact q_k);intro hne;(try simp only[nes,ne1,and_assoc] at hne);repeat(have hq:=hne.1;replace hne:=hne.2))|((with_reducible refine And.intro ?_ ?_);(focus exact q_k))|((with_reducible apply(Ah (f:=G) (henter:=hent.out) (hp:=v4.out.symm) (h:=hdo.out)));(focus exact q_v);(focus exact LEL.refl _);(rintro d0 st0 ⟨S',h1,rfl,hp4⟩))|(with_reducible refine Bl ?_)|refine QY ?_|(refine QB ?_;intro b)|(with_reducible refine QZ ?_<;>(try constructor)<;>intro hb<;>try intro hb1)|refine Qc Tryz.call17 ((hPw.out _)) ?_|fail)
    exact⟨(B::(S'.st++st))++K',by rw[show(B::(S'.st++st))++K'=B::(S'.st++(st++K')) from by rw[List.cons_append,List.append_assoc]];exact hp4.symm,_,List.Sublist.refl _,S',h1,rfl⟩
 · rintro d K1 C' rfl ⟨Sj,hJ,rfl⟩
   have hfin:Hid (∃S',J x.ts.length S'∧D.tup []=D.tup []∧(B::(S'.st++st)).Perm (B::(Sj.st++st))):=⟨Sj,hJ,rfl,.refl _⟩
   repeat' (first|refine QX ?_|(refine QB ?_;intro b)|(with_reducible refine QZ ?_<;>(try constructor)<;>intro hb<;>try intro hb1)|fail)
   exact Bn q_x q_y (.refl _) (List.Sublist.refl _) (LE.refl _) hfin.out
end
section
attribute [local push_cast] Ad Ae Ao V.cells_mk V.cells_len Nat.mul_one Int.sub_zero List.map_nil beq_self_eq_true bne_self_eq_false List.head?_cons Bool.not_true Bool.not_false Nat.zero_add
attribute [-instance] Aq Av Am AV
theorem NC.layC{S:NC}{w:Tok}{Hj:List Tok}{k:Nat}{x:Nd}(hx:S.ns[k]?=some x)(hp:S.H.Perm (w::Hj))(s:St):∃(ROWj KC:List D) (RJ:St) (TL:List D),(∀c,(({S with H:=Nt.withCount w c::Hj}:NC).st++s).Perm (.box S.c 109 [.ar S.g 0 S.ns.length S.cap]::.box S.g 115 ROWj::.box w.b 119 ([w.fromD,.i w.lv,.i w.id,.sl .shared (w.env.map V.cells)]++(KC++[.i c]))::RJ))∧List.drop (k*9+1) ROWj=.b x.p.neg::TL∧k*9+9≤ROWj.length∧KC.length=3:=by
 have hs:Az S.ns++S.zs=Az (S.ns.take k)++(x.p.cells++((x.fm.cells x.fs.length++x.tm.cells x.ts.length)++(Az (S.ns.drop (k+1))++S.zs))):=by
  rw[CX hx]
  unfold Nd.cells
  simp only[List.append_assoc]
 have hl:=Dz hx
 have hpc:x.p.cells=[.i x.p.tmpl,.b x.p.neg,.sl .shared (x.p.tests.map Ts.cells)]:=rfl
 refine⟨Az S.ns++S.zs,w.km.cells w.kids.length,S.rest Hj w s,[.sl .shared (x.p.tests.map Ts.cells)]++((x.fm.cells x.fs.length++x.tm.cells x.ts.length)++(Az (S.ns.drop (k+1))++S.zs)),fun c=>?_,?_,?_,MemP.cells_len ..⟩
 · exact NC.view (S:={S with H:=Nt.withCount w c::Hj}) (t:=Nt.withCount w c) (H0:=Hj) (.refl _) s
 · rw[hs,←hl,←List.drop_drop,List.drop_left,hpc];rfl
 · rw[List.length_append,AZ]
   have:=(List.getElem?_eq_some_iff.1 hx).1
   omega
theorem Wo(S : NC)(w:Tok)(X:List Nat)(k nb:Nat)(x:Nd)(f:Fc)(e:List V)(hx:S.ns[k]?=some x)(hn:x.p.neg=false)(hS:Nt.Str S [])(hL:Nt.Loc S X)(hwX:w.b∈X)(hw:w∈S.H)(hk:w.anc.length=k+1)(hkl:k+1<S.ns.length)(he:EK e)(hkid:w.kids.length<1000)(st:St) :
 TrF Tryz.prog 101 (.ptr w.b 0::.sl .shared (e.map V.cells)::[.ptr nb 0,.ip [.ptr S.c 0],.ip f.cells]) (.box nb 164 [.ptr S.g (k*9)]::(S.st++st)) fun d st'=>∃S',Nt.Str S' []∧Nt.Loc S' X∧Nt.ExtR S S' w f.id e∧d=.tup []∧(Res.box nb 164 [.ptr S.g (k*9)]::(S'.st++st)).Perm st':=by
 have hext:=ME k S w X f.id e hS hL hwX hw hk hkl he hkid (.box nb 164 [.ptr S.g (k*9)]::st)
 obtain⟨Hj,hpj⟩:=Nt.tok_split hw
 obtain⟨ROWj,KC,RJ,TL,v1,v3,v4, -⟩:=NC.layC hx hpj st
 have hv1:(S.st++st).Perm _:=((NC.view hpj st).trans (NC.view (S:={S with H:=Nt.withCount w w.count::Hj}) (t:=Nt.withCount w w.count) (H0:=Hj) (.refl _) st).symm).trans (v1 w.count)
 rw[hn] at v3
 have v5:=hv1.cons (Res.box nb 164 [.ptr S.g (k*9)])
 have v6:(Res.box nb 164 [.ptr S.g (k*9)]::(S.st++st)).Perm (S.st++(Res.box nb 164 [.ptr S.g (k*9)]::st)):=List.perm_middle.symm
 have v8:=Lib.hid (v5.symm.trans v6)
 have hext2:=Lib.hid (hext.mono fun d st' ⟨S',h1,h2,h3,h4,h5⟩=>(⟨S',h1,h2,h3,h4,List.perm_middle.symm.trans h5⟩:∃S',Nt.Str S' []∧Nt.Loc S' X∧Nt.ExtR S S' w f.id e∧d=D.tup []∧(Res.box nb 164 [.ptr S.g (k*9)]::(S'.st++st)).Perm st'))
 refine TrF.perm v5 ?_
 clear hext hpj v1 hv1 v5 v6 hS hL hwX hw hk hkl he hkid hx hn
 rw[show f.cells=[.i f.id,.i f.time,.i f.tmpl,.i f.ver,.sl .shared (f.s.map V.cells)] from rfl]
 generalize f.s.map V.cells=VS at *
 generalize e.map V.cells=EC at *
 generalize w.env.map V.cells=TE at *
 generalize w.fromD=fd at *
 refine Qin [] Tryz.func101 Tryz.results101 Tryz.ntmps101 ?_
 repeat' (first|refine QV ?_|((with_reducible apply(Ah (f:=97) (henter:=Tryz.call97) (hp:=v8.out) (h:=hext2.out)));(focus exact q_v);(focus(first|exact LEL.refl _|((repeat' (first|exact LEL.nil|refine LEL.cons ?_ ?_|exact LE.refl _|exact LE.sl _ _|refine LE.agg ?_));done)));(rintro d0 st0 ⟨S',h1,h2,h3,rfl,hp4⟩))|refine QY ?_|(refine QB ?_;intro b)|(with_reducible refine QZ ?_<;>(try constructor)<;>intro hb<;>try intro hb1)|fail)
 all_goals exact Ab q_x q_y (List.Sublist.refl _) (LE.refl _) ⟨S',h1,h2,h3,rfl,hp4⟩
theorem Wp(S : NC)(w:Tok)(Hj:List Tok)(k nb:Nat)(x:Nd)(f:Fc)(e:List V)(hx:S.ns[k]?=some x)(hn:x.p.neg=true)(hS:Nt.Str S [])(hpj:S.H.Perm (w::Hj))(hk:w.anc.length=k+1)(hc:0≤w.count∧w.count+1≤1000)(st:St) :
 TrF Tryz.prog 101 (.ptr w.b 0::.sl .shared (e.map V.cells)::[.ptr nb 0,.ip [.ptr S.c 0],.ip f.cells]) (.box nb 164 [.ptr S.g (k*9)]::(S.st++st)) fun d st'=>∃S',Nt.Str S' []∧Nt.PruR (Nt.setCount S Hj w (w.count+1)) S' (Nt.withCount w (w.count+1))∧d=.tup []∧(Res.box nb 164 [.ptr S.g (k*9)]::(S'.st++st)).Perm st':=by
 have hpr:=ZM k (Nt.setCount S Hj w (w.count+1)) (Nt.withCount w (w.count+1)) (hS.setCount hpj ⟨by omega,hc.2⟩) (List.mem_cons_self ..) hk (.box nb 164 [.ptr S.g (k*9)]::st)
 obtain⟨ROWj,KC,RJ,TL,v1,v3,v4,v5⟩:=NC.layC hx hpj st
 have hv1:(S.st++st).Perm _:=((NC.view hpj st).trans (NC.view (S:={S with H:=Nt.withCount w w.count::Hj}) (t:=Nt.withCount w w.count) (H0:=Hj) (.refl _) st).symm).trans (v1 w.count)
 rw[hn] at v3
 have v6:=hv1.cons (Res.box nb 164 [.ptr S.g (k*9)])
 have v7:(Res.box nb 164 [.ptr S.g (k*9)]::((Nt.setCount S Hj w (w.count+1)).st++st)).Perm ((Nt.setCount S Hj w (w.count+1)).st++(Res.box nb 164 [.ptr S.g (k*9)]::st)):=List.perm_middle.symm
 have v8:=Lib.hid (((v1 (w.count+1)).cons (Res.box nb 164 [.ptr S.g (k*9)])).symm.trans v7)
 have hpr2:=Lib.hid (hpr.mono fun d st' ⟨S',h1,h2,h4,h5⟩=>(⟨S',h1,h2,h4,List.perm_middle.symm.trans h5⟩:∃S',Nt.Str S' []∧Nt.PruR (Nt.setCount S Hj w (w.count+1)) S' (Nt.withCount w (w.count+1))∧d=D.tup []∧(Res.box nb 164 [.ptr S.g (k*9)]::(S'.st++st)).Perm st'))
 have e1:(Nt.setCount S Hj w (w.count+1)).c=S.c:=rfl
 have e2:(Nt.withCount w (w.count+1)).b=w.b:=rfl
 rw[e1,e2] at hpr2
 refine TrF.perm v6 ?_
 have hd3:∀l:List D,List.drop 3 (KC++l)=l:=fun l=>by rw[←v5];exact List.drop_left
 have ht3:∀l:List D,List.take 3 (KC++l)=KC:=fun l=>by rw[←v5];exact List.take_left
 have hd4:∀(y:D) (l:List D),List.drop 4 (KC++y::l)=l:=fun y l=>by
  rw[show 4=3+1 from rfl,←List.drop_drop,hd3];rfl
 obtain⟨hb1,hb2⟩:=hc
 clear hpr hpj v1 hv1 v6 v7 hS hk hx hn e1 e2
 rw[show f.cells=[.i f.id,.i f.time,.i f.tmpl,.i f.ver,.sl .shared (f.s.map V.cells)] from rfl]
 generalize hSC:Nt.setCount S Hj w (w.count+1)=SC at *
 generalize hWC:Nt.withCount w (w.count+1)=WC at *
 clear hSC hWC
 generalize f.s.map V.cells=VS at *
 generalize e.map V.cells=EC at *
 generalize w.env.map V.cells=TE at *
 generalize w.fromD=fd at *
 generalize w.count=cw at *
 have v9:Hid ((Res.box nb 164 [.ptr S.g (k*9)]::.box S.c 109 [.ar S.g 0 S.ns.length S.cap]::.box S.g 115 ROWj::.box w.b 119 (fd::.i w.lv::.i w.id::.sl .shared TE::(KC++[.s (.int .i64 (cw+1))]))::RJ).Perm (SC.st++(Res.box nb 164 [.ptr S.g (k*9)]::st))):=v8
 clear v8
 refine Qin [] Tryz.func101 Tryz.results101 Tryz.ntmps101 ?_
 repeat' (first|refine QV ?_|((with_reducible apply(Ah (f:=102) (henter:=Tryz.call102) (hp:=v9.out) (h:=hpr2.out)));(focus exact q_v);(focus(first|exact LEL.refl _|((repeat' (first|exact LEL.nil|refine LEL.cons ?_ ?_|exact LE.refl _|exact LE.sl _ _|refine LE.agg ?_));done)));(rintro d0 st0 ⟨S',h1,h2,rfl,hp4⟩))|refine QY ?_|(refine QB ?_;intro b)|(with_reducible refine QZ ?_<;>(try constructor)<;>intro hb<;>try intro hb1)|fail)
 all_goals exact Ab q_x q_y (List.Sublist.refl _) (LE.refl _) ⟨S',h1,h2,rfl,hp4⟩
end
section
attribute [local push_cast] Ad Ae Ao V.cells_mk V.cells_len Nat.mul_one Int.sub_zero List.map_nil beq_self_eq_true bne_self_eq_false List.head?_cons Bool.not_true Bool.not_false Nat.zero_add
attribute [-instance] Aq Av Am AV
theorem Tp(S:NC)(w:Tok)(k nb:Nat)(x:Nd)(id:Int)(e:List V)(J:Nat→NC→Prop)(hx:S.ns[k]?=some x)(hn:x.p.neg=false)(hS:Nt.Str S [])(hw:w∈S.H)(hk:w.anc.length=k+1)(h0:J 0 S)(hJs:∀j Sj,J j Sj→Nt.Str Sj []∧Nt.Kept S Sj)
 (hJk:∀(j b:Nat) Sj,w.kids[j]?=some b→J j Sj→∃u∈Sj.H,u.b=b∧u.anc.length=k+1+1)
 (hno:∀(j b:Nat) Sj u,w.kids[j]?=some b→J j Sj→u∈Sj.H→u.b=b→u.id≠id→J (j+1) Sj)
 (hyes:∀(j b:Nat) Sj u S',w.kids[j]?=some b→J j Sj→u∈Sj.H→u.b=b→u.id=id→Nt.Str S' []→Nt.RemR Sj S' u→J (j+1) S')(st:St) :
 TrF Tryz.prog 103 (.ptr w.b 0::.sl .shared (e.map V.cells)::[.ptr nb 0,.ip [.ptr S.c 0],.ip [.i id]]) (.box nb 164 [.ptr S.g (k*9)]::(S.st++st)) fun d st'=>∃S',J w.kids.length S'∧d=.tup []∧(Res.box nb 164 [.ptr S.g (k*9)]::(S'.st++st)).Perm st':=by
 obtain⟨Hj,hpj⟩:=Nt.tok_split hw
 have hkl:=hS.kl w hw
 obtain⟨NB,hNB⟩:∃NB,NB=Res.box nb 164 [.ptr S.g (k*9)]:=⟨_,rfl⟩
 have hall:Hid (TrF Tryz.prog 104 [.ptr w.b 4] (NB::(S.st++st)) fun d st'=>d=.fn (.func 141) [] [.ip [.sl .shared (Cr w.kids)]]∧(NB::(S.st++st)).Perm st'):=by
  have h1:=((NC.at_tok hpj).append_right st).cons NB
  simp only[List.cons_append,List.append_assoc] at h1
  have h7:=h1.trans (BH _ _ _ _)
  have h8:=IR w.b 119 w.pre [.i w.count] w.km w.kids (hS.okt w hw) q_o (NB::(({S with H:=Hj}:NC).st++st))
  exact(TrF.perm h7 h8).mono fun d st' ⟨e1,e2⟩=>⟨e1,by rw[e2];exact h7⟩
 obtain⟨ROWj,KC,RJ,TL,v1,v3,v4, -⟩:=NC.layC hx hpj st
 have hv1:(S.st++st).Perm _:=((NC.view hpj st).trans (NC.view (S:={S with H:=Nt.withCount w w.count::Hj}) (t:=Nt.withCount w w.count) (H0:=Hj) (.refl _) st).symm).trans (v1 w.count)
 rw[hn] at v3
 have v5:=hv1.cons NB
 have v8:Hid (List.Perm _ (NB::(S.st++st))):=v5.symm
 have hIt:=Lib.hid (IQ w.kids q_o)
 have hJ0:Hid (J 0 S):=h0
 have HK:Hid _:=hJk
 have HN:Hid _:=hno
 have HY:Hid _:=hyes
 have HJ:Hid _:=hJs
 have HNB:Hid (NB=Res.box nb 164 [.ptr S.g (k*9)]):=hNB
 rw[hNB] at v5 v8 hall
 refine TrF.perm v5 ?_
 clear hNB
 have hR:=QJ (k+1)
 clear hyes hno hJk hJs h0 v5 hv1 v1 hpj hS hw hn
 generalize e.map V.cells=EC at *
 generalize w.env.map V.cells=TE at *
 generalize w.fromD=fd at *
 generalize hST:S.st++st=ST at *
 refine Qin [] Tryz.func103 Tryz.results103 Tryz.ntmps103 ?_
 repeat' (first|refine QV ?_|((with_reducible apply(Ah (f:=104) (henter:=Tryz.call104) (hp:=v8.out) (h:=hall.out)));(focus exact q_v);(focus(first|exact LEL.refl _|((repeat' (first|exact LEL.nil|refine LEL.cons ?_ ?_|exact LE.refl _|exact LE.sl _ _|refine LE.agg ?_));done)));(rintro d0 st0 ⟨rfl,hp3⟩))|refine QY ?_|(refine QB ?_;intro b)|(with_reducible refine QZ ?_<;>(try constructor)<;>intro hb<;>try intro hb1)|fail)
 refine Af (st':=[]++(NB::(S.st++st))) (by rw[List.nil_append,hST,HNB.out];exact hp3.symm) ?_
 clear hp3 hall v8
 refine Dx hIt.out Tryz.call141 q_v (fun _=>rfl) rfl (fun j C=>∃Sj,J j Sj∧C=NB::(Sj.st++st)) (fun _ _ _=>False) ⟨S,hJ0.out,rfl⟩ ?_ ?_ (fun _ _ _ _ _ _ h=>h.elim)
 · rintro l j b C K hb ⟨Sj,hJ,rfl⟩
   obtain⟨u,u1,u2,u3⟩:=HK.out j b Sj hb hJ
   obtain⟨hSj,hKj⟩:=HJ.out j Sj hJ
   obtain⟨Hq,hpq⟩:=Nt.tok_split u1
   have hNw:=HN.out j b Sj u hb hJ u1 u2
   have hYw:=fun S'=>HY.out j b Sj u S' hb hJ u1 u2
   clear hIt hJ0 HK HJ HN HY
   refine(?_:Tr _ _ _ _ (AA.put ⟨_,[]⟩ (some 36) (.ptr b 0)) (NB::((Sj.st++st)++K)) _)
   repeat' (first|refine QX ?_|(refine QB ?_;intro b)|(with_reducible refine QZ ?_<;>(try constructor)<;>intro hb<;>try intro hb1)|fail)
   refine⟨NB::(Sj.st++st),List.Sublist.refl _,fun K'=>?_⟩
   clear K
   obtain⟨ROWu,UC,RU,q1, -, -⟩:=NC.layN hKj hx hpq (st++K')
   rw[u2] at q1
   have q4:(NB::(Sj.st++(st++K'))).Perm (.box S.c 109 [.ar S.g 0 S.ns.length S.cap]::.box S.g 115 ROWu::.box b 119 ([u.fromD,.i u.lv,.i u.id,.sl .shared (u.env.map V.cells)]++UC)::NB::RU):=(q1.cons NB).trans (BH NB _ [_,_] _)
   refine De ?_
   refine Af (st':=.box S.c 109 [.ar S.g 0 S.ns.length S.cap]::.box S.g 115 ROWu::.box b 119 ([u.fromD,.i u.lv,.i u.id,.sl .shared (u.env.map V.cells)]++UC)::NB::RU) (by
    show List.Perm (_::((Sj.st++st)++K')) _
    rw[List.append_assoc]
    exact q4) ?_
   by_cases hid:u.id=id
   · have hrm := hR Sj u hSj u1 u3 (fun e0 => by
      have:=congrArg List.length e0
      rw[List.length_tail,u3] at this
      simp at this) (NB::(st++K'))
     rw[hKj.c,u2] at hrm
     have hst:=Lib.hid fun(S':NC) h1 h2=>hYw S' hid h1 h2
     replace hrm:=Lib.hid hrm
     have q5:=Lib.hid (q4.symm.trans (List.perm_middle (a:=NB) (l₁:=Sj.st) (l₂:=st++K')).symm)
     clear hR hb hJ hSj hKj hpq u1 u2 u3 hNw hYw q1 q4
     generalize u.env.map V.cells=UE at *
     generalize u.fromD=ud at *
     rw[hid] at *
     repeat' (first|refine QV ?_|((with_reducible apply(Bf (id:=6) [(b,[ud,.i u.lv,.i id,.sl .shared UE]++UC)]));(iterate 3 (focus kernel_rfl));(focus exact q_k);intro hne;(try simp only[nes,ne1,and_assoc] at hne);repeat(have hq:=hne.1;replace hne:=hne.2))|((with_reducible refine And.intro ?_ ?_);(focus exact q_k))|((with_reducible apply(Ah (f:=105) (henter:=Tryz.call105) (hp:=q5.out) (h:=hrm.out)));(focus exact q_v);(focus(first|exact LEL.refl _|((repeat' (first|exact LEL.nil|refine LEL.cons ?_ ?_|exact LE.refl _|exact LE.sl _ _|refine LE.agg ?_));done)));(rintro d0 st0 ⟨S',h1,h2,rfl,hp4⟩))|refine QY ?_|(refine QB ?_;intro b)|(with_reducible refine QZ ?_<;>(try constructor)<;>intro hb<;>try intro hb1)|fail)
     exact⟨(NB::(S'.st++st))++K',hp4.symm.trans (by rw[show(NB::(S'.st++st))++K'=NB::(S'.st++(st++K')) from by rw[List.cons_append,List.append_assoc]];exact List.perm_middle),_,List.Sublist.refl _,S',hst.out S' h1 h2,rfl⟩
   · have hst:=Lib.hid (hNw hid)
     replace q4:=Lib.hid q4
     clear hR hb hJ hSj hKj hpq u1 u2 u3 hNw hYw q1
     generalize u.env.map V.cells=UE at *
     generalize u.fromD=ud at *
     generalize u.id=ui at *
     repeat' (first|refine QV ?_|((with_reducible apply(Bf (id:=6) [(b,[ud,.i u.lv,.i ui,.sl .shared UE]++UC)]));(iterate 3 (focus kernel_rfl));(focus exact q_k);intro hne;(try simp only[nes,ne1,and_assoc] at hne);repeat(have hq:=hne.1;replace hne:=hne.2))|((with_reducible refine And.intro ?_ ?_);(focus exact q_k))|refine QY ?_|(refine QB ?_;intro b)|(with_reducible refine QZ ?_<;>(try constructor)<;>intro hb<;>try intro hb1)|fail)
     exact⟨(NB::(Sj.st++st))++K',by rw[show(NB::(Sj.st++st))++K'=NB::(Sj.st++(st++K')) from by rw[List.cons_append,List.append_assoc]];exact q4.out.symm,_,List.Sublist.refl _,Sj,hst.out,rfl⟩
 · rintro d K1 C' rfl ⟨Sj,hJ,rfl⟩
   have hfin:Hid (∃S',J w.kids.length S'∧D.tup []=D.tup []∧(Res.box nb 164 [.ptr S.g (k*9)]::(S'.st++st)).Perm (NB::(Sj.st++st))):=⟨Sj,hJ,rfl,by rw[HNB.out]⟩
   repeat' (first|refine QX ?_|(refine QB ?_;intro b)|(with_reducible refine QZ ?_<;>(try constructor)<;>intro hb<;>try intro hb1)|fail)
   exact Bn q_x q_y (.refl _) (List.Sublist.refl _) (LE.refl _) hfin.out
end
section
attribute [local push_cast] Ad Ae Ao V.cells_mk V.cells_len Nat.mul_one Int.sub_zero List.map_nil beq_self_eq_true bne_self_eq_false List.head?_cons Bool.not_true Bool.not_false Nat.zero_add
attribute [-instance] Aq Av Am AV
theorem Tq(S : NC)(w:Tok)(Hj:List Tok)(k nb:Nat)(x:Nd)(id:Int)(e:List V)(hx:S.ns[k]?=some x)(hn:x.p.neg=true)(hpj:S.H.Perm (w::Hj))(hc:2≤w.count∧w.count≤1000)(st:St) :
 TrF Tryz.prog 103 (.ptr w.b 0::.sl .shared (e.map V.cells)::[.ptr nb 0,.ip [.ptr S.c 0],.ip [.i id]]) (.box nb 164 [.ptr S.g (k*9)]::(S.st++st)) fun d st'=>d=.tup []∧(Res.box nb 164 [.ptr S.g (k*9)]::((Nt.setCount S Hj w (w.count - 1)).st++st)).Perm st':=by
 obtain⟨ROWj,KC,RJ,TL,v1,v3,v4,v5⟩:=NC.layC hx hpj st
 have hv1:(S.st++st).Perm _:=((NC.view hpj st).trans (NC.view (S:={S with H:=Nt.withCount w w.count::Hj}) (t:=Nt.withCount w w.count) (H0:=Hj) (.refl _) st).symm).trans (v1 w.count)
 rw[hn] at v3
 have v6:=hv1.cons (Res.box nb 164 [.ptr S.g (k*9)])
 have v8:=Lib.hid ((v1 (w.count - 1)).cons (Res.box nb 164 [.ptr S.g (k*9)]))
 refine TrF.perm v6 ?_
 have hd3:∀l:List D,List.drop 3 (KC++l)=l:=fun l=>by rw[←v5];exact List.drop_left
 have ht3:∀l:List D,List.take 3 (KC++l)=KC:=fun l=>by rw[←v5];exact List.take_left
 have hd4:∀(y:D) (l:List D),List.drop 4 (KC++y::l)=l:=fun y l=>by
  rw[show 4=3+1 from rfl,←List.drop_drop,hd3];rfl
 obtain⟨hb1,hb2⟩:=hc
 clear hpj v1 hv1 v6 hx hn
 have e3:(Nt.setCount S Hj w (w.count - 1))={S with H:=Nt.withCount w (w.count - 1)::Hj}:=rfl
 rw[←e3] at v8
 clear e3
 generalize Nt.setCount S Hj w (w.count - 1)=SC at *
 generalize e.map V.cells=EC at *
 generalize w.env.map V.cells=TE at *
 generalize w.fromD=fd at *
 generalize w.count=cw at *
 have hcz:(cw - 1 == 0)=false:=by
  rw[beq_eq_false_iff_ne];omega
 have hcn:¬cw - 1=0:=by omega
 refine Qin [] Tryz.func103 Tryz.results103 Tryz.ntmps103 ?_
 repeat' (first|refine QX ?_|(refine QB ?_;intro b)|(with_reducible refine QZ ?_<;>(try constructor)<;>intro hb<;>try intro hb1)|fail)
 all_goals exact Ab q_x q_y (List.Sublist.refl _) (LE.refl _) ⟨rfl,v8.out⟩
theorem PA(S : NC)(w:Tok)(Hj:List Tok)(X:List Nat)(k nb:Nat)(x:Nd)(id:Int)(e:List V)(hx:S.ns[k]?=some x)(hn:x.p.neg=true)(hS:Nt.Str S [])(hL:Nt.Loc S X)(hwX:w.b∈X)(hpj:S.H.Perm (w::Hj))(hk:w.anc.length=k+1)(hkl:k+1<S.ns.length)(hkid:w.kids.length<1000)(hc:w.count=1)(st:St) :
 TrF Tryz.prog 103 (.ptr w.b 0::.sl .shared (e.map V.cells)::[.ptr nb 0,.ip [.ptr S.c 0],.ip [.i id]]) (.box nb 164 [.ptr S.g (k*9)]::(S.st++st)) fun d st'=>∃S',Nt.Str S' []∧Nt.Loc S' X∧Nt.ExtR (Nt.setCount S Hj w 0) S' (Nt.withCount w 0) 0 w.env∧d=.tup []∧(Res.box nb 164 [.ptr S.g (k*9)]::(S'.st++st)).Perm st':=by
 have hw:w∈S.H:=(Nt.memH hpj).2 (.inl rfl)
 have hb:(0:Int)≤0∧(0:Int)≤1000:=by decide
 have hext:=ME k (Nt.setCount S Hj w 0) (Nt.withCount w 0) X 0 w.env (hS.setCount hpj hb) (hL.setCount hS hpj hwX hb) hwX (List.mem_cons_self ..) hk hkl (hS.ek w hw) hkid (.box nb 164 [.ptr S.g (k*9)]::st)
 obtain⟨ROWj,KC,RJ,TL,v1,v3,v4,v5⟩:=NC.layC hx hpj st
 have hv1:(S.st++st).Perm _:=((NC.view hpj st).trans (NC.view (S:={S with H:=Nt.withCount w w.count::Hj}) (t:=Nt.withCount w w.count) (H0:=Hj) (.refl _) st).symm).trans (v1 w.count)
 rw[hn] at v3
 have v6:=hv1.cons (Res.box nb 164 [.ptr S.g (k*9)])
 have e1:(Nt.setCount S Hj w 0).c=S.c:=rfl
 have e2:(Nt.withCount w 0).b=w.b:=rfl
 rw[e1,e2] at hext
 have v7:(Res.box nb 164 [.ptr S.g (k*9)]::((Nt.setCount S Hj w 0).st++st)).Perm ((Nt.setCount S Hj w 0).st++(Res.box nb 164 [.ptr S.g (k*9)]::st)):=List.perm_middle.symm
 have v8:Hid ((Res.box nb 164 [.ptr S.g (k*9)]::.box S.c 109 [.ar S.g 0 S.ns.length S.cap]::.box S.g 115 ROWj::.box w.b 119 (w.fromD::.i w.lv::.i w.id::.sl .shared (w.env.map V.cells)::(KC++[.i 0]))::RJ).Perm ((Nt.setCount S Hj w 0).st++(Res.box nb 164 [.ptr S.g (k*9)]::st))):=((v1 0).cons (Res.box nb 164 [.ptr S.g (k*9)])).symm.trans v7
 have hext2:=Lib.hid (hext.mono fun d st' ⟨S',h1,h2,h3,h4,h5⟩=>(⟨S',h1,h2,h3,h4,List.perm_middle.symm.trans h5⟩:∃S',Nt.Str S' []∧Nt.Loc S' X∧Nt.ExtR (Nt.setCount S Hj w 0) S' (Nt.withCount w 0) 0 w.env∧d=D.tup []∧(Res.box nb 164 [.ptr S.g (k*9)]::(S'.st++st)).Perm st'))
 have hinh2:Hid ((∃w',Holds (.box nb 164 [.ptr S.g (k*9)]::.box S.c 109 [.ar S.g 0 S.ns.length S.cap]::.box S.g 115 ROWj::.box w.b 119 (w.fromD::.i w.lv::.i w.id::.sl .shared (w.env.map V.cells)::(KC++[.i 0]))::RJ) w')→∃d0 st',∃S',Nt.Str S' []∧Nt.Loc S' X∧Nt.ExtR (Nt.setCount S Hj w 0) S' (Nt.withCount w 0) 0 w.env∧d0=D.tup []∧(Res.box nb 164 [.ptr S.g (k*9)]::(S'.st++st)).Perm st'):=fun⟨w',hw⟩=>by
  obtain⟨v,hv⟩:=Ry (d:=.sl .shared (w.env.map V.cells)) (i:=3) hw (b:=w.b) (ty:=119) (cs:=(w.fromD::.i w.lv::.i w.id::.sl .shared (w.env.map V.cells)::(KC++[.i 0]))) (List.mem_cons_of_mem _ (List.mem_cons_of_mem _ (List.mem_cons_of_mem _ (List.mem_cons_self ..)))) rfl
  exact(TrF.perm v8.out hext2.out).inhab (us:=[.pointer (some ⟨S.c,0,none⟩),.pointer (some ⟨w.b,0,none⟩),.int .i64 0,v]) (RepL.cons (.ptr _ _) (RepL.cons (.ptr _ _) (RepL.cons (.s _ rfl) (RepL.cons hv .nil)))) hw
 refine TrF.perm v6 ?_
 have hd3:∀l:List D,List.drop 3 (KC++l)=l:=fun l=>by rw[←v5];exact List.drop_left
 have ht3:∀l:List D,List.take 3 (KC++l)=KC:=fun l=>by rw[←v5];exact List.take_left
 have hd4:∀(y:D) (l:List D),List.drop 4 (KC++y::l)=l:=fun y l=>by
  rw[show 4=3+1 from rfl,←List.drop_drop,hd3];rfl
 clear hext hpj v1 hv1 v6 v7 hS hL hwX hk hkl hkid hx hn e1 e2 hw hb
 rw[hc]
 clear hc
 generalize hSC:Nt.setCount S Hj w 0=SC at *
 generalize hWC:Nt.withCount w 0=WC at *
 clear hSC hWC
 generalize e.map V.cells=EC at *
 generalize hTE:w.env.map V.cells=TE at *
 generalize w.fromD=fd at *
 refine Qin [] Tryz.func103 Tryz.results103 Tryz.ntmps103 ?_
 repeat' (first|refine QV ?_|((with_reducible apply(FX (id:=3) [(w.b,fd::.i w.lv::.i w.id::.sl .shared TE::(KC++[.i 0]))]));(iterate 3 (focus kernel_rfl));(focus exact q_k);intro hne;(try simp only[nes,ne1,and_assoc] at hne);(repeat(have hq:=hne.1;replace hne:=hne.2));intro hw2)|((with_reducible refine And.intro ?_ ?_);(focus exact q_k))|((with_reducible apply(Br Tryz.call97));(focus exact v8.out);(focus exact hext2.out);(focus exact LEL.refl _);(focus exact hinh2.out hw2);(rintro d2 st4 ⟨S',h1,h2,h3,rfl,hp4⟩;refine⟨An,?_⟩))|(with_reducible refine Bl ?_)|refine QY ?_|(refine QB ?_;intro b)|(with_reducible refine QZ ?_<;>(try constructor)<;>intro hb<;>try intro hb1)|fail)
 all_goals exact Ab q_x q_y (List.Sublist.refl _) (LE.refl _) ⟨S',h1,h2,h3,rfl,hp4⟩
end
section
namespace Nt
variable {S S1 S' Sj:NC} {E X ts:List Nat} {t u v w t':Tok} {H0 H1:List Tok} {p:Pt} {F:List Fc} {j k b:Nat}
structure KidsSame (S S':NC)(a:List Nat):Prop where
 fw:∀w∈S.H,w.anc.tail=a→∃w'∈S'.H,w'.anc=w.anc∧w'.id=w.id∧w'.env=w.env
 bw:∀w'∈S'.H,w'.anc.tail=a→∃w∈S.H,w'.anc=w.anc∧w'.id=w.id∧w'.env=w.env
theorem Part.move{L:List (Int×List V)}{c:Int}(h:Part S t L c)(hS':Str S' [])(ha:t'.anc=t.anc)(hc:t'.count=t.count)(hK:KidsSame S S' t.anc):Part S' t' L c:=by
 refine⟨hc.trans h.ct,fun u hu e=>?_,fun y hy=>?_,fun u hu v hv e1 e2 e3=>?_⟩
 · obtain⟨w,w1,w2,w3,w4⟩:=hK.bw u hu (e.trans ha)
   rw[w3,w4]
   exact h.sub w w1 (by rw[←w2,e,ha])
 · obtain⟨w,w1,w2,w3⟩:=h.all y hy
   obtain⟨w',q1,q2,q3,q4⟩:=hK.fw w w1 w2
   exact⟨w',q1,by rw[q2,w2,ha],by rw[q3,q4];exact w3⟩
 · obtain⟨w,w1,w2,w3, -⟩:=hK.bw u hu (e1.trans ha)
   obtain⟨z,z1,z2,z3, -⟩:=hK.bw v hv (e2.trans ha)
   have:=h.one w w1 z z1 (by rw[←w2,e1,ha]) (by rw[←z2,e2,ha]) (by rw[←w3,←z3,e3])
   subst this
   exact hS'.anc_b hu hv (w2.trans z2.symm)
theorem LocOk.part(h:LocOk S t)(hk:t.anc.length≠S.ns.length){x:Nd}(hx:S.ns[t.anc.length - 1]?=some x):Part S t (exps x.p x.fs t.env) (cnt x.p x.fs t.env):=by
 unfold LocOk at h
 rw[if_neg hk] at h
 obtain⟨h1,h2,h3,h4⟩:=h x hx
 exact⟨h1,h2,h3,h4⟩
theorem LocOk.move(h:LocOk S t)(hS:Str S [])(hS':Str S' [])(ht:t∈S.H)(ht':t'∈S'.H)(hQ:Kept S S')(ha:t'.anc=t.anc)(hc:t'.count=t.count)(he:t'.env=t.env)(hK:KidsSame S S' t.anc):LocOk S' t':=by
 by_cases hl:t.anc.length=S.ns.length
 · unfold LocOk at h ⊢
   rw[if_pos hl] at h
   rw[if_pos (by rw[ha,hQ.nl];exact hl)]
   refine⟨hc.trans h.1,List.eq_nil_iff_forall_not_mem.2 fun b hb=>?_⟩
   obtain⟨u,u1,u2,u3⟩:=(hS'.km t' ht' b).1 hb
   obtain⟨w,w1,w2, -⟩:=hK.bw u u1 (u3.trans ha)
   have:=(hS.km t ht w.b).2 ⟨w,w1,rfl,by rw[←w2,u3,ha]⟩
   rw[h.2] at this
   exact List.not_mem_nil this
 · have hlt : t.anc.length - 1 < S.ns.length := by
    have:=hS.lv t ht
    have:=List.length_pos_iff.2 (hS.ne t ht)
    omega
   have hx:S.ns[t.anc.length - 1]?=some (S.ns[t.anc.length - 1]):=List.getElem?_eq_getElem hlt
   obtain⟨y,y1,y2,y3⟩:=hQ.ns _ _ hx
   have h1:=(h.part hl hx).move hS' ha hc hK
   rw[←y2,←y3,←he] at h1
   exact h1.loc (by rw[ha,hQ.nl];exact hl) (by rw[ha];exact y1)
def Off (S S':NC)(a:List Nat):Prop:=∀w,¬a <:+ w.anc→(w∈S.H↔w∈S'.H)
theorem GT{a l:List Nat}(h:a <:+ l)(hne:l≠a):a <:+ l.tail:=by
 cases l with
|nil=>exact absurd (List.suffix_nil.1 h).symm hne
|cons b l =>
  rcases List.suffix_cons_iff.1 h with e|h
  · exact absurd e.symm hne
  · exact h
theorem Off.kids{a c:List Nat}(h:Off S S' a)(hl:c.length=a.length)(hne:c≠a)(hc:0<a.length):KidsSame S S' c:=by
 have hn:∀w:Tok,w.anc.tail=c→¬a <:+ w.anc:=fun w e hs=>by
  by_cases ew:w.anc=a
  · rw[ew] at e
    have:=congrArg List.length e
    rw[List.length_tail] at this
    omega
  · have h1:=GT hs ew
    rw[e] at h1
    exact hne (FZ h1 q_o).symm
 exact⟨fun w hw e=>⟨w,(h w (hn w e)).1 hw,rfl,rfl,rfl⟩,fun w hw e=>⟨w,(h w (hn w e)).2 hw,rfl,rfl,rfl⟩⟩
theorem Grew.off(h:Grew S S' t):Off S S' t.anc:=h.keep
theorem PruR.off(h:PruR S S' t):Off S S' t.anc:=h.keep
theorem RemR.off(h:RemR S S' u)(hp:t.anc=u.anc.tail):Off S S' t.anc:=fun w hw=>h.keep w (fun hs=>hw (by rw[hp];exact(List.tail_suffix _).trans hs)) (fun e=>hw (by rw[e,hp];exact List.suffix_refl _))
theorem Off.trans{S2:NC}{a:List Nat}(h:Off S S1 a)(k:Off S1 S2 a):Off S S2 a:=fun w hw=>(h w hw).trans (k w hw)
structure StepJ (S1:NC)(ts:List Nat)(k:Nat)(p:Pt)(F:List Fc)(j:Nat)(Sj:NC):Prop where
 str:Str Sj []
 kept:Kept S1 Sj
 loc:Loc Sj (ts.drop j)
 part:∀b∈ts.drop j,∃w∈Sj.H,w.b=b∧w.anc.length=k+1∧Part Sj w (exps p F w.env) (cnt p F w.env)
theorem StepJ.tok(h:StepJ S1 ts k p F j Sj)(hb:ts[j]?=some b):∃w∈Sj.H,w.b=b∧w.anc.length=k+1∧Part Sj w (exps p F w.env) (cnt p F w.env):=h.part b (by rw[V.drop_cons hb];exact List.mem_cons_self ..)
theorem StepJ.next(h:StepJ S1 ts k p F j Sj)(hnd:ts.Nodup)(hb:ts[j]?=some b)(hw:w∈Sj.H)(hwb:w.b=b)(hS':Str S' [])(hQ:Kept Sj S')(hL:Loc S' (ts.drop j))(hO:Off Sj S' w.anc)(hok:∀w'∈S'.H,w'.anc=w.anc→LocOk S' w')(hw':∃w'∈S'.H,w'.anc=w.anc):StepJ S1 ts k p F (j+1) S':=by
 obtain⟨w0,q1,q2,q3, -⟩:=h.tok hb
 have:=h.str.same q1 hw (q2.trans hwb.symm)
 subst this
 obtain⟨z,z1,z2⟩:=hw'
 refine⟨hS',h.kept.trans hQ,fun u hu hub=>?_,fun c hc=>?_⟩
 · by_cases e:u.b=b
   · have hz:u=z:=hS'.same hu z1 (e.trans (by rw[←q2];exact(b_of z2).symm))
     exact hok u hu (by rw[hz];exact z2)
   · exact hL u hu (by
      rw[V.drop_cons hb,List.mem_cons]
      rintro(h|h)
      · exact e h
      · exact hub h)
 · obtain⟨u,u1,u2,u3,u4⟩:=h.part c (by rw[V.drop_cons hb];exact List.mem_cons_of_mem _ hc)
   have hcb:c≠b:=fun e=>by
    have h1:(ts.drop j).Nodup:=hnd.sublist (List.drop_sublist ..)
    rw[V.drop_cons hb,List.nodup_cons] at h1
    exact h1.1 (e▸hc)
   have hne:u.anc≠w0.anc:=fun e=>hcb (by rw[←u2,b_of e,q2])
   have hlen:u.anc.length=w0.anc.length:=by rw[u3,q3]
   have hu':u∈S'.H:=(hO u fun hs=>hne (FZ hs q_o).symm).1 u1
   exact⟨u,hu',u2,u3,u4.move hS' rfl rfl (hO.kids hlen hne q_o)⟩
theorem StepJ.done(h:StepJ S1 ts k p F ts.length Sj):Loc Sj []:=by
 have:=h.loc
 rwa[List.drop_length] at this
end Nt
end
section
namespace Nt
variable {S S1 S' Sj:NC} {E X ts:List Nat} {t u v w t' w':Tok} {H0 H1:List Tok} {p:Pt} {F:List Fc} {j k b:Nat} {x:Nd} {f:Fc} {e:List V}
theorem Loc.prune(h:Loc S X)(hS:Str S [])(hS':Str S' [])(hR:PruR S S' t)(ht:t∈S.H)(htX:t.b∈X):Loc S' X:=by
 intro u hu hub
 have hne:u.anc≠t.anc:=fun e=>hub (by rw[b_of e];exact htX)
 have hns:¬t.anc <:+ u.anc:=fun hs=>hne (hR.gone u hu hs)
 have hu0:=(hR.keep u hns).2 hu
 obtain⟨z,z1,z2,z3,z4, -⟩:=hR.self
 refine(h u hu0 hub).move hS hS' hu0 hu hR.toKept rfl rfl rfl ⟨fun w hw e=>?_,fun w hw e=>?_⟩
 · by_cases ew:w.anc=t.anc
   · have:=hS.anc_b hw ht ew
     subst this
     exact⟨z,z1,z2,z3,z4⟩
   · exact⟨w,(hR.keep w fun hs=>hns (by rw[←e];exact GT hs ew)).1 hw,rfl,rfl,rfl⟩
 · by_cases ew:w.anc=t.anc
   · have:=hS'.anc_b hw z1 (ew.trans z2.symm)
     subst this
     exact⟨t,ht,z2,z3,z4⟩
   · exact⟨w,(hR.keep w fun hs=>hns (by rw[←e];exact GT hs ew)).2 hw,rfl,rfl,rfl⟩
theorem Part.congr{L L':List (Int×List V)}{c:Int}(h:Part S t L c)(hL:∀y,y∈L↔y∈L'):Part S t L' c:=⟨h.ct,fun u hu e=>(hL _).1 (h.sub u hu e),fun y hy=>h.all y ((hL y).2 hy),h.one⟩
theorem Part.ok(hQ:Kept S1 S')(hx:S1.ns[k]?=some x)(hkn:k+1≠S1.ns.length)(hk:w'.anc.length=k+1)(h:Part S' w' (exps x.p x.fs w'.env) (cnt x.p x.fs w'.env)):LocOk S' w':=by
 obtain⟨y,y1,y2,y3⟩:=hQ.ns k x hx
 rw[←y2,←y3] at h
 exact h.loc (by rw[hQ.nl,hk];exact hkn) (by rw[hk];exact y1)
theorem StepJ.same(h:StepJ S1 ts k x.p F j Sj)(hnd:ts.Nodup)(hb:ts[j]?=some b)(hw:w∈Sj.H)(hwb:w.b=b)(hx:S1.ns[k]?=some x)(hkn:k+1≠S1.ns.length)(hs:(Mat.passL x.p x.fs w.env).Perm (Mat.passL x.p F w.env)):StepJ S1 ts k x.p F (j+1) Sj:=by
 obtain⟨w0,q1,q2,q3,q4⟩:=h.tok hb
 have:=h.str.same q1 hw (q2.trans hwb.symm)
 subst this
 have hc:cnt x.p F w0.env=cnt x.p x.fs w0.env:=by
  unfold cnt
  rw[hs.length_eq]
 have he:∀y,y∈exps x.p F w0.env↔y∈exps x.p x.fs w0.env:=fun y=>by
  unfold exps
  split
  · have:Mat.passL x.p x.fs w0.env=[]↔Mat.passL x.p F w0.env=[]:=⟨fun e=>by rw[e] at hs;exact List.nil_perm.1 hs,fun e=>by rw[e] at hs;exact List.perm_nil.1 hs⟩
    by_cases e:Mat.passL x.p x.fs w0.env=[]
    · rw[if_pos e,if_pos (this.1 e)]
    · rw[if_neg e,if_neg (fun e1=>e (this.2 e1))]
  · exact hs.mem_iff.symm
 have hP:=q4.congr he
 rw[hc] at hP
 refine h.next hnd hb hw hwb h.str (Kept.refl _) h.loc (fun _ _=>Iff.rfl) (fun w' h1 h2=>?_) ⟨w0,q1,rfl⟩
 have:=h.str.anc_b h1 q1 h2
 subst this
 exact Part.ok h.kept hx hkn q3 hP
theorem StepJ.pos(h:StepJ S1 ts k x.p F j Sj)(hnd:ts.Nodup)(hb:ts[j]?=some b)(hw:w∈Sj.H)(hwb:w.b=b)(hx:S1.ns[k]?=some x)(hkn:k+1≠S1.ns.length)(hn:x.p.neg=false)(hfs:x.fs=F++[f])(hid:f.id∉F.map Fc.id)(hp:Mat.pass x.p f w.env=some e)(hS':Str S' [])(hL:Loc S' (ts.drop j))(hE:ExtR Sj S' w f.id e):StepJ S1 ts k x.p F (j+1) S':=by
 obtain⟨w0,q1,q2,q3,q4⟩:=h.tok hb
 have:=h.str.same q1 hw (q2.trans hwb.symm)
 subst this
 have e1:exps x.p F w0.env=Mat.passL x.p F w0.env:=by unfold exps;rw[if_neg (by rw[hn];decide)]
 have e2:exps x.p x.fs w0.env=Mat.passL x.p F w0.env++[(f.id,e)]:=by
  unfold exps
  rw[if_neg (by rw[hn];decide),hfs]
  unfold Mat.passL
  rw[List.filterMap_append,List.filterMap_cons_some (b:=(f.id,e)) (by rw[hp];rfl),List.filterMap_nil]
 have e3:∀G,cnt x.p G w0.env=0:=fun G=>by unfold cnt;rw[if_neg (by rw[hn];decide)]
 rw[e1,e3] at q4
 obtain⟨z,z1,z2,z3,z4,z5⟩:=q4.ext hS' hw (id:=f.id) (env:=e) (fun hm=>by
  obtain⟨y,hy,hye⟩:=List.mem_map.1 hm
  exact hid (by rw[←hye];exact Ig hy)) hE
 refine h.next hnd hb hw hwb hS' hE.toKept hL hE.grew.off (fun w' h1 h2=>?_) ⟨z,z1,z2⟩
 have:=hS'.anc_b h1 z1 (h2.trans z2.symm)
 subst this
 rw[←e2,←e3 x.fs,←z4] at z5
 exact Part.ok (h.kept.trans hE.toKept) hx hkn (by rw[z2,q3]) z5
theorem StepJ.neg(h:StepJ S1 ts k x.p F j Sj)(hnd:ts.Nodup)(hb:ts[j]?=some b)(hw:w∈Sj.H)(hwb:w.b=b)(hx:S1.ns[k]?=some x)(hkn:k+1≠S1.ns.length)(hn:x.p.neg=true)(hfs:x.fs=F++[f])(hp:Mat.pass x.p f w.env=some e)(hpm:Sj.H.Perm (w::H0))(hc:0≤w.count+1∧w.count+1≤1000)(hS':Str S' [])(hR:PruR (Nt.setCount Sj H0 w (w.count+1)) S' (withCount w (w.count+1))):StepJ S1 ts k x.p F (j+1) S':=by
 obtain⟨w0,q1,q2,q3,q4⟩:=h.tok hb
 have:=h.str.same q1 hw (q2.trans hwb.symm)
 subst this
 have hbm:b∈ts.drop j:=by rw[V.drop_cons hb];exact List.mem_cons_self ..
 have hwX:w0.b∈ts.drop j:=by rw[q2];exact hbm
 have hS2:=h.str.setCount hpm hc
 have hL:=(h.loc.setCount h.str hpm hwX hc).prune hS2 hS' hR (List.mem_cons_self ..) hwX
 have hG:=Grew.setCount (c:=w0.count+1) hpm
 obtain⟨z,z1,z2,z3,z4,z5,z6⟩:=hR.self
 have z2:z.anc=w0.anc:=z2
 have z4:z.env=w0.env:=z4
 have z5:z.count=w0.count+1:=z5
 have e1:Mat.passL x.p x.fs w0.env=Mat.passL x.p F w0.env++[(f.id,e)]:=by
  rw[hfs]
  unfold Mat.passL
  rw[List.filterMap_append,List.filterMap_cons_some (b:=(f.id,e)) (by rw[hp];rfl),List.filterMap_nil]
 have e2:exps x.p x.fs z.env=[]:=by
  unfold exps
  rw[if_pos hn,z4,e1,if_neg (by simp)]
 have e3:cnt x.p x.fs z.env=z.count:=by
  have:=q4.ct
  unfold cnt at this ⊢
  rw[if_pos hn] at this ⊢
  rw[z4,e1,z5,this,List.length_append,List.length_singleton]
  omega
 refine h.next hnd hb hw hwb hS' (hG.toKept.trans hR.toKept) hL (hG.off.trans hR.off) (fun w' h1 h2=>?_) ⟨z,z1,z2⟩
 have:=hS'.anc_b h1 z1 (h2.trans z2.symm)
 subst this
 have hP:=Part.nil hS' z1 z6
 rw[←e2,←e3] at hP
 exact Part.ok (h.kept.trans (hG.toKept.trans hR.toKept)) hx hkn (by rw[z2,q3]) hP
end Nt
end
section
namespace Nt
variable {S S0 S1 S' Sj Si:NC} {E X ts K0:List Nat} {t u v w t' w':Tok} {H0 H1:List Tok} {p:Pt} {F:List Fc} {i j k b:Nat} {x:Nd} {f:Fc} {e:List V} {id:Int}
theorem Loc.remove(h:Loc S X)(hS:Str S [])(hS':Str S' [])(hR:RemR S S' u)(hu:u∈S.H)(hne:u.anc.tail≠[])(ht:t.anc=u.anc.tail)(htX:t.b∈X):Loc S' X:=by
 intro v hv hvb
 have hvn:v.anc≠t.anc:=fun e=>hvb (by rw[b_of e];exact htX)
 have hns:=hR.gone v hv
 have hv0:=(hR.keep v hns (by rw[←ht];exact hvn)).2 hv
 obtain⟨z,z1,z2,z3⟩:=hR.par
 obtain⟨q,q1,q2⟩:=hS.up u hu hne
 refine(h v hv0 hvb).move hS hS' hv0 hv hR.toKept rfl rfl rfl ⟨fun w hw e=>?_,fun w hw e=>?_⟩
 · by_cases ew:w.anc=u.anc.tail
   · obtain⟨z4,z5, -⟩:=z3 w hw ew
     exact⟨z,z1,z2.trans ew.symm,z4,z5⟩
   · refine⟨w,(hR.keep w (fun hs=>?_) ew).1 hw,rfl,rfl,rfl⟩
     by_cases e2:w.anc=u.anc
     · exact hvn (by rw[←e,e2,ht])
     · exact hns (by rw[←e];exact GT hs e2)
 · by_cases ew:w.anc=u.anc.tail
   · have:=hS'.anc_b hw z1 (ew.trans z2.symm)
     subst this
     obtain⟨z4,z5, -⟩:=z3 q q1 q2.symm
     exact⟨q,q1,ew.trans q2,z4,z5⟩
   · exact⟨w,(hR.keep w (hR.gone w hw) ew).2 hw,rfl,rfl,rfl⟩
structure KidJ (S0:NC)(w:Tok)(id:Int)(X:List Nat)(i:Nat)(Si:NC):Prop where
 str:Str Si []
 kept:Kept S0 Si
 loc:Loc Si X
 off:Off S0 Si w.anc
 self:∃w'∈Si.H,w'.anc=w.anc∧w'.id=w.id∧w'.env=w.env∧w'.count=w.count
 sub:∀u∈Si.H,u.anc.tail=w.anc→∃u0∈S0.H,u=u0∧(u.b∈w.kids.take i→u.id≠id)
 sup:∀u∈S0.H,u.anc.tail=w.anc→(u.id≠id∨u.b∉w.kids.take i)→u∈Si.H
theorem KidJ.zero(hS:Str S0 [])(hL:Loc S0 X)(hw:w∈S0.H):KidJ S0 w id X 0 S0 :=
 ⟨hS,Kept.refl _,hL,fun _ _=>Iff.rfl,⟨w,hw,rfl,rfl,rfl,rfl⟩,fun u hu _=>⟨u,hu,rfl,fun h=>by rw[List.take_zero] at h;exact absurd h List.not_mem_nil⟩,fun u hu _ _=>hu⟩
theorem KidJ.kid(h:KidJ S0 w id X i Si)(hS:Str S0 [])(hw:w∈S0.H)(hb:w.kids[i]?=some b):∃u∈Si.H,u.b=b∧u.anc.tail=w.anc:=by
 obtain⟨u,u1,u2,u3⟩:=(hS.km w hw b).1 (List.mem_of_getElem? hb)
 refine⟨u,h.sup u u1 u3 (.inr fun hm=>?_),u2,u3⟩
 rw[u2] at hm
 have h1:=hS.kn w hw
 rw[←List.take_append_drop i w.kids,V.drop_cons hb,List.nodup_append] at h1
 exact h1.2.2 b hm b (List.mem_cons_self ..) rfl
theorem KidJ.no(h:KidJ S0 w id X i Si)(hb:w.kids[i]?=some b)(hu:u∈Si.H)(hub:u.b=b)(hid:u.id≠id):KidJ S0 w id X (i+1) Si:=by
 refine⟨h.str,h.kept,h.loc,h.off,h.self,fun v hv e=>?_,fun v hv e hor=>?_⟩
 · obtain⟨v0,v1,v2,v3⟩:=h.sub v hv e
   refine⟨v0,v1,v2,fun hm=>?_⟩
   rw[List.take_add_one,hb,Option.toList_some,List.mem_append,List.mem_singleton] at hm
   rcases hm with hm|hm
   · exact v3 hm
   · rw[h.str.same hv hu (hm.trans hub.symm)];exact hid
 · refine h.sup v hv e (hor.imp_right fun hm hm2=>hm ?_)
   rw[List.take_add_one]
   exact List.mem_append_left _ hm2
theorem KidJ.yes(h:KidJ S0 w id X i Si)(hS:Str S0 [])(hw:w∈S0.H)(hwX:w.b∈X)(hb:w.kids[i]?=some b)(hu:u∈Si.H)(hub:u.b=b)(hid:u.id=id)(hS':Str S' [])(hR:RemR Si S' u):KidJ S0 w id X (i+1) S':=by
 obtain⟨u0,u1,u2,u3⟩:=h.kid hS hw hb
 have:=h.str.same u1 hu (u2.trans hub.symm)
 subst this
 have hwne:=hS.ne w hw
 have hne:u0.anc.tail≠[]:=by rw[u3];exact hwne
 obtain⟨z,z1,z2,z3⟩:=hR.par
 obtain⟨s,s1,s2,s3,s4,s5⟩:=h.self
 obtain⟨z4,z5,z6⟩:=z3 s s1 (s2.trans u3.symm)
 have hu0:=tok_b (h.str.ne u0 u1)
 refine⟨hS',h.kept.trans hR.toKept,h.loc.remove h.str hS' hR u1 hne u3.symm hwX,h.off.trans (hR.off u3.symm),⟨z,z1,z2.trans u3,z4.trans s3,z5.trans s4,z6.trans s5⟩,fun v hv e=>?_,fun v hv e hor=>?_⟩
 · have hvl : v.anc ≠ u0.anc.tail := fun e2 => by
    rw[u3] at e2
    rw[e2] at e
    have:=congrArg List.length e
    rw[List.length_tail] at this
    have:=List.length_pos_iff.2 hwne
    omega
   have hg:=hR.gone v hv
   obtain⟨v0,v1,v2,v3⟩:=h.sub v ((hR.keep v hg hvl).2 hv) e
   refine⟨v0,v1,v2,fun hm=>?_⟩
   rw[List.take_add_one,hb,Option.toList_some,List.mem_append,List.mem_singleton] at hm
   rcases hm with hm|hm
   · exact v3 hm
   · refine absurd ?_ hg
     have h1:=tok_b (hS'.ne v hv)
     rw[hu0,h1,hm,hub,u3,e]
     exact List.suffix_refl _
 · have hvi:v∈Si.H:=h.sup v hv e (hor.imp_right fun hm hm2=>hm (by rw[List.take_add_one];exact List.mem_append_left _ hm2))
   have hvl:v.anc≠u0.anc.tail:=fun e2=>by
    rw[u3] at e2
    rw[e2] at e
    have:=congrArg List.length e
    rw[List.length_tail] at this
    have:=List.length_pos_iff.2 hwne
    omega
   refine(hR.keep v (fun hs=>?_) hvl).1 hvi
   have h1:=tok_b (h.str.ne v hvi)
   have hlen:u0.anc=v.anc:=FZ hs (by rw[h1,hu0,e,u3];exact Nat.le_refl _)
   have:=h.str.anc_b u1 hvi hlen
   subst this
   rcases hor with ho|ho
   · exact ho hid
   · exact ho (by rw[List.take_add_one,hb,Option.toList_some,hub];exact List.mem_append_right _ (List.mem_singleton.2 rfl))
end Nt
end
section
namespace Nt
variable {S S0 S1 S' Sj Si:NC} {E X ts K0:List Nat} {t u v w t' w':Tok} {H0 H1:List Tok} {p:Pt} {F:List Fc} {i j k b:Nat} {x:Nd} {f:Fc} {e:List V} {id:Int}
theorem passL_perm{p:Pt}{F G:List Fc}(h:F.Perm G)(env:List V):(Mat.passL p F env).Perm (Mat.passL p G env):=h.filterMap _
theorem passL_some{p:Pt}{G:List Fc}{env:List V}(h:Mat.pass p f env=some e):Mat.passL p (f::G) env=(f.id,e)::Mat.passL p G env:=by
 unfold Mat.passL
 exact List.filterMap_cons_some (by rw[h];rfl)
theorem passL_none{p:Pt}{G:List Fc}{env:List V}(h:Mat.pass p f env=none):Mat.passL p (f::G) env=Mat.passL p G env:=by
 unfold Mat.passL
 exact List.filterMap_cons_none (by rw[h];rfl)
theorem StepJ.kids(h:StepJ S1 ts k x.p F j Sj)(hnd:ts.Nodup)(hb:ts[j]?=some b)(hw:w∈Sj.H)(hwb:w.b=b)(hx:S1.ns[k]?=some x)(hkn:k+1≠S1.ns.length)(hn:x.p.neg=false)(hF:F.Perm (f::x.fs))(hid:f.id∉x.fs.map Fc.id)(hp:Mat.pass x.p f w.env=some e)(hK:KidJ Sj w f.id (ts.drop j) w.kids.length S'):StepJ S1 ts k x.p F (j+1) S':=by
 obtain⟨w0,q1,q2,q3,q4⟩:=h.tok hb
 have:=h.str.same q1 hw (q2.trans hwb.symm)
 subst this
 have e1:∀G,exps x.p G w0.env=Mat.passL x.p G w0.env:=fun G=>by unfold exps;rw[if_neg (by rw[hn];decide)]
 have e3:∀G,cnt x.p G w0.env=0:=fun G=>by unfold cnt;rw[if_neg (by rw[hn];decide)]
 rw[e1,e3] at q4
 have hm:∀y,y∈Mat.passL x.p F w0.env↔y=(f.id,e)∨y∈Mat.passL x.p x.fs w0.env:=fun y=>by
  rw[(passL_perm hF w0.env).mem_iff,passL_some hp,List.mem_cons]
 obtain⟨z,z1,z2,z3,z4,z5⟩:=hK.self
 have hkb:∀u∈Sj.H,u.anc.tail=w0.anc→u.b∈w0.kids.take w0.kids.length:=fun u hu e=>by
  rw[List.take_length]
  exact(h.str.km w0 hw u.b).2 ⟨u,hu,rfl,e⟩
 have hP:Part S' z (exps x.p x.fs z.env) (cnt x.p x.fs z.env):=by
  rw[z4,e1,e3]
  refine⟨z5.trans q4.ct,fun u hu e=>?_,fun y hy=>?_,fun u hu v hv a1 a2 a3=>?_⟩
  · obtain⟨u0,u1,u2,u3⟩:=hK.sub u hu (e.trans z2)
    subst u2
    have hne:=u3 (hkb u u1 (e.trans z2))
    rcases(hm _).1 (q4.sub u u1 (e.trans z2)) with h1|h1
    · exact absurd (congrArg Prod.fst h1) hne
    · exact h1
  · obtain⟨u,u1,u2,u3⟩:=q4.all y ((hm y).2 (.inr hy))
    have hne:u.id≠f.id:=fun h1=>hid (by
     rw[←h1,show u.id=y.1 from congrArg Prod.fst u3]
     exact Ig hy)
    exact⟨u,hK.sup u u1 u2 (.inl hne),u2.trans z2.symm,u3⟩
  · obtain⟨u0,u1,u2, -⟩:=hK.sub u hu (a1.trans z2)
    obtain⟨v0,v1,v2, -⟩:=hK.sub v hv (a2.trans z2)
    subst u2 v2
    exact q4.one u u1 v v1 (a1.trans z2) (a2.trans z2) a3
 refine h.next hnd hb hw hwb hK.str hK.kept hK.loc hK.off (fun w' h1 h2=>?_) ⟨z,z1,z2⟩
 have:=hK.str.anc_b h1 z1 (h2.trans z2.symm)
 subst this
 exact Part.ok (h.kept.trans hK.kept) hx hkn (by rw[z2,q3]) hP
theorem StepJ.less(h:StepJ S1 ts k x.p F j Sj)(hnd:ts.Nodup)(hb:ts[j]?=some b)(hw:w∈Sj.H)(hwb:w.b=b)(hx:S1.ns[k]?=some x)(hkn:k+1≠S1.ns.length)(hn:x.p.neg=true)(hF:F.Perm (f::x.fs))(hp:Mat.pass x.p f w.env=some e)(hpm:Sj.H.Perm (w::H0))(hc:2≤w.count∧w.count≤1000):StepJ S1 ts k x.p F (j+1) (Nt.setCount Sj H0 w (w.count - 1)):=by
 obtain⟨w0,q1,q2,q3,q4⟩:=h.tok hb
 have:=h.str.same q1 hw (q2.trans hwb.symm)
 subst this
 have hbm:b∈ts.drop j:=by rw[V.drop_cons hb];exact List.mem_cons_self ..
 have hwX:w0.b∈ts.drop j:=by rw[q2];exact hbm
 have hc2:0≤w0.count - 1∧w0.count - 1≤1000:=by omega
 have hS2:=h.str.setCount hpm hc2
 have hL:=h.loc.setCount h.str hpm hwX hc2
 have hG:=Grew.setCount (c:=w0.count - 1) hpm
 have hl:(Mat.passL x.p F w0.env).length=(Mat.passL x.p x.fs w0.env).length+1:=by
  rw[(passL_perm hF w0.env).length_eq,passL_some hp,List.length_cons]
 have hct:=q4.ct
 unfold cnt at hct
 rw[if_pos hn,hl] at hct
 have e1:exps x.p F w0.env=[]:=by
  unfold exps
  rw[if_pos hn,if_neg (fun e=>by rw[e] at hl;cases hl)]
 have e2:exps x.p x.fs w0.env=[]:=by
  unfold exps
  rw[if_pos hn,if_neg (fun e=>by rw[e] at hct;simp at hct;omega)]
 have e3:cnt x.p x.fs w0.env=w0.count - 1:=by
  unfold cnt
  rw[if_pos hn,hct]
  omega
 rw[e1] at q4
 have hP:=q4.setCount h.str hpm hc2
 rw[←e2,←e3] at hP
 refine h.next hnd hb hw hwb hS2 hG.toKept hL hG.off (fun w' h1 h2=>?_) ⟨withCount w0 (w0.count - 1),List.mem_cons_self ..,rfl⟩
 have:=hS2.anc_b h1 (List.mem_cons_self ..) (h2.trans (show w0.anc=(withCount w0 (w0.count - 1)).anc from rfl))
 subst this
 refine Part.ok (h.kept.trans hG.toKept) hx hkn q3 (w':=withCount w0 (w0.count - 1)) ?_
 rw[←e3]
 exact hP
theorem StepJ.last(h:StepJ S1 ts k x.p F j Sj)(hnd:ts.Nodup)(hb:ts[j]?=some b)(hw:w∈Sj.H)(hwb:w.b=b)(hx:S1.ns[k]?=some x)(hkn:k+1≠S1.ns.length)(hn:x.p.neg=true)(hF:F.Perm (f::x.fs))(hp:Mat.pass x.p f w.env=some e)(hpm:Sj.H.Perm (w::H0))(hc:w.count=1)(hS':Str S' [])(hL:Loc S' (ts.drop j))(hE:ExtR (Nt.setCount Sj H0 w 0) S' (withCount w 0) 0 w.env):StepJ S1 ts k x.p F (j+1) S':=by
 obtain⟨w0,q1,q2,q3,q4⟩:=h.tok hb
 have:=h.str.same q1 hw (q2.trans hwb.symm)
 subst this
 have hc2:(0:Int)≤0∧(0:Int)≤1000:=by decide
 have hS2:=h.str.setCount hpm hc2
 have hG:=Grew.setCount (c:=0) hpm
 have hl:(Mat.passL x.p F w0.env).length=(Mat.passL x.p x.fs w0.env).length+1:=by
  rw[(passL_perm hF w0.env).length_eq,passL_some hp,List.length_cons]
 have hct:=q4.ct
 unfold cnt at hct
 rw[if_pos hn,hl,hc] at hct
 have hnil:Mat.passL x.p x.fs w0.env=[]:=List.eq_nil_of_length_eq_zero q_o
 have e1:exps x.p F w0.env=[]:=by
  unfold exps
  rw[if_pos hn,if_neg (fun e=>by rw[e] at hl;cases hl)]
 have e2:exps x.p x.fs w0.env=[(0,w0.env)]:=by
  unfold exps
  rw[if_pos hn,if_pos hnil]
 have e3:cnt x.p x.fs w0.env=0:=by
  unfold cnt
  rw[if_pos hn,hnil]
  rfl
 rw[e1] at q4
 have hP:=q4.setCount h.str hpm hc2
 obtain⟨z,z1,z2,z3,z4,z5⟩:=hP.ext hS' (List.mem_cons_self ..) (id:=0) (env:=w0.env) (by simp) hE
 have z2:z.anc=w0.anc:=z2
 have z4:z.env=w0.env:=z4
 rw[List.nil_append,←e2,←e3,←z4] at z5
 refine h.next hnd hb hw hwb hS' (hG.toKept.trans hE.toKept) hL (hG.off.trans hE.grew.off) (fun w' h1 h2=>?_) ⟨z,z1,z2⟩
 have:=hS'.anc_b h1 z1 (h2.trans z2.symm)
 subst this
 exact Part.ok (h.kept.trans (hG.toKept.trans hE.toKept)) hx hkn (by rw[z2,q3]) z5
end Nt
end
section
namespace Nt
variable {S S1 S' Sj:NC} {X:List Nat} {w:Tok} {k:Nat} {x:Nd} {f z:Fc} {fs:List Fc} {M:MemP}
def setFs (S:NC)(k:Nat)(x:Nd)(fs:List Fc)(M:MemP):NC:={S with ns:=S.ns.set k {x with fs:=fs,fm:=M} }
theorem Str.setFs(h:Str S [])(hx:S.ns[k]?=some x)(hM:M.okF fs)(hf:FKs fs)(hl:fs.length≤1000):Str (Nt.setFs S k x fs M) []:=by
 have hxm:=List.mem_of_getElem? hx
 have hk:=(List.getElem?_eq_some_iff.1 hx).1
 refine⟨h.ne,h.nd,h.up,h.rt,h.kn,h.km,h.kl,fun w hw=>?_,fun i y hy=>?_,fun i y hy b=>?_,h.okt,fun y hy=>?_,?_,?_,h.ek,fun y hy=>?_,h.ct,h.rx⟩
 · show _≤(S.ns.set k _).length
   rw[List.length_set];exact h.lv w hw
 · rcases Ed hx hy with⟨-,rfl⟩|⟨-,hy⟩
   · exact h.tn k x hx
   · exact h.tn i y hy
 · rcases Ed hx hy with⟨rfl,rfl⟩|⟨-,hy⟩
   · exact h.tm _ x hx b
   · exact h.tm i y hy b
 · rcases List.getElem?_of_mem hy with⟨i,hi⟩
   rcases Ed hx hi with⟨-,rfl⟩|⟨-,hi⟩
   · exact⟨hM,(h.okx x hxm).2⟩
   · exact h.okx y (List.mem_of_getElem? hi)
 · have h1:=h.row
   show(Az (S.ns.set k _)++S.zs).length=_
   rw[List.length_append,AZ] at h1 ⊢
   rw[List.length_set]
   exact h1
 · show(S.ns.set k _).length≤5
   rw[List.length_set];exact h.nl
 · rcases List.getElem?_of_mem hy with⟨i,hi⟩
   rcases Ed hx hi with⟨-,rfl⟩|⟨-,hi⟩
   · exact⟨(h.pk x hxm).1,hf,hl⟩
   · exact h.pk y (List.mem_of_getElem? hi)
theorem Loc.setFs(h:Loc S [])(hS:Str S [])(hx:S.ns[k]?=some x):Loc (Nt.setFs S k x fs M) x.ts:=by
 intro u hu hub
 have hu:u∈S.H:=hu
 have hk:u.anc.length≠k+1:=fun e=>hub ((hS.tm k x hx u.b).2 ⟨u,hu,rfl,e,List.not_mem_nil⟩)
 have h1:=h u hu List.not_mem_nil
 unfold LocOk at h1 ⊢
 show if u.anc.length=(S.ns.set k _).length then _ else _
 rw[List.length_set]
 split
 · rename_i e;rw[if_pos e] at h1;exact h1
 · rename_i e
   rw[if_neg e] at h1
   intro y hy
   have hp:=List.length_pos_iff.2 (hS.ne u hu)
   rcases Ed hx hy with⟨e2, -⟩|⟨-,hy⟩
   · omega
   · exact h1 y hy
theorem StepJ.zero(h:Loc S [])(hS:Str S [])(hx:S.ns[k]?=some x)(hkn:k+1≠S.ns.length)(hM:M.okF fs)(hf:FKs fs)(hl:fs.length≤1000):StepJ (Nt.setFs S k x fs M) x.ts k x.p x.fs 0 (Nt.setFs S k x fs M):=by
 refine⟨hS.setFs hx hM hf hl,Kept.refl _,by rw[List.drop_zero];exact h.setFs hS hx,fun b hb=>?_⟩
 rw[List.drop_zero] at hb
 obtain⟨w,w1,w2,w3, -⟩:=(hS.tm k x hx b).1 hb
 have h1:=(h w w1 List.not_mem_nil).part (by rw[w3];exact hkn) (x:=x) (by rw[w3];exact hx)
 exact⟨w,w1,w2,w3,h1.ct,h1.sub,h1.all,h1.one⟩
end Nt
theorem NC.put_F{S:NC}{k:Nat}{x:Nd}(hx:S.ns[k]?=some x)(fs:List Fc)(M:MemP)(B:Res)(st:St):(B::((Nt.setFs S k x fs M).st++st)).Perm (.box S.g 115 (Hf S.ns k x++(M.cells fs.length++Fr S.ns k x S.zs))::(M.resF fs++(B::(x.tm.resT x.ts++(S.off k++st))))):=by
 have hx2:(Nt.setFs S k x fs M).ns[k]?=some {x with fs:=fs,fm:=M}:=List.getElem?_set_self (List.getElem?_eq_some_iff.1 hx).1
 have h6:=((NC.at_F hx2).append_right st).cons B
 refine h6.trans ?_
 simp only[List.cons_append,List.append_assoc]
 refine(BH _ _ _ _).trans ?_
 have e1:Hf (Nt.setFs S k x fs M).ns k {x with fs:=fs,fm:=M}=Hf S.ns k x:=by
  unfold Hf
  show Az ((S.ns.set k _).take k)++_=_
  rw[Bv]
 have e2:Fr (Nt.setFs S k x fs M).ns k {x with fs:=fs,fm:=M} (Nt.setFs S k x fs M).zs=Fr S.ns k x S.zs:=by
  unfold Fr
  show _++(Az ((S.ns.set k _).drop (k+1))++_)=_
  rw[BB]
  rfl
 have e3:(Nt.setFs S k x fs M).off k=S.off k:=by
  unfold NC.off NC.cbox
  show Res.box S.c _ [.ar S.g 0 (S.ns.set k _).length S.cap]::(((S.ns.set k _).take k).flatMap Nd.res++(((S.ns.set k _).drop (k+1)).flatMap Nd.res++S.H.flatMap Tok.res))=_
  rw[Bv,BB,List.length_set]
 rw[e1,e2,e3]
 exact List.Perm.refl _
theorem NC.get_F{S:NC}{k:Nat}{x:Nd}(hx:S.ns[k]?=some x)(B:Res)(st:St):(B::(S.st++st)).Perm (.box S.g 115 (Hf S.ns k x++(x.fm.cells x.fs.length++Fr S.ns k x S.zs))::(x.fm.resF x.fs++(B::(x.tm.resT x.ts++(S.off k++st))))):=by
 have h6:=((NC.at_F hx).append_right st).cons B
 refine h6.trans ?_
 simp only[List.cons_append,List.append_assoc]
 exact BH _ _ _ _
theorem Vw(S:NC)(k:Nat)(x:Nd)(f:Fc)(B:Res)(hS:Nt.Str S [])(hx:S.ns[k]?=some x)(hid:f.id∉x.fs.map Fc.id)(st:St):TrF Tryz.prog 65 [.ptr S.g (k*9+3),.i f.id,.agg f.cells] (B::(S.st++st)) fun d st'=>∃M':MemP,M'.okF (x.fs++[f])∧d=.tup []∧(B::((Nt.setFs S k x (x.fs++[f]) M').st++st)).Perm st':=by
 have hxm:=List.mem_of_getElem? hx
 have hl:=(hS.pk x hxm).2.2
 have h2:=Ri S.g 115 (Hf S.ns k x) (Fr S.ns k x S.zs) x.fm x.fs f (hS.okx x hxm).1 hid q_o (B::(x.tm.resT x.ts++(S.off k++st)))
 rw[He hx] at h2
 refine(TrF.perm (NC.get_F hx B st) h2).mono fun d st' ⟨M',h3,h4,h5⟩=>⟨M',h3,h4,?_⟩
 have h6:=NC.put_F hx (x.fs++[f]) M' B st
 rw[List.length_append,List.length_singleton] at h6
 exact h6.trans h5
theorem SZ(S:NC)(k:Nat)(x:Nd)(f z:Fc)(i n:Nat)(B:Res)(hS:Nt.Str S [])(hx:S.ns[k]?=some x)(hn:x.fs.length=n+1)(hi:x.fs[i]?=some f)(hz:x.fs[n]?=some z)(st:St):TrF Tryz.prog 68 [.ptr S.g (k*9+3),.i f.id] (B::(S.st++st)) fun d st'=>∃M':MemP,M'.okF (Ax x.fs i z)∧d=.tup []∧(B::((Nt.setFs S k x (Ax x.fs i z) M').st++st)).Perm st':=by
 have hxm:=List.mem_of_getElem? hx
 have hl:=(hS.pk x hxm).2.2
 have h2:=OB S.g 115 (Hf S.ns k x) (Fr S.ns k x S.zs) x.fm x.fs f z i n (hS.okx x hxm).1 hn hi hz q_o (B::(x.tm.resT x.ts++(S.off k++st)))
 rw[He hx] at h2
 refine(TrF.perm (NC.get_F hx B st) h2).mono fun d st' ⟨M',h3,h4,h5⟩=>⟨M',h3,h4,?_⟩
 have h6:=NC.put_F hx (Ax x.fs i z) M' B st
 rw[Ew hn] at h6
 exact h6.trans h5
theorem NW(S:NC)(k:Nat)(x:Nd)(id:Int)(B:Res)(hS:Nt.Str S [])(hx:S.ns[k]?=some x)(st:St):TrF Tryz.prog 64 [.ptr S.g (k*9+3),.i id] (B::(S.st++st)) fun d st'=>d=DV (Mat.find x.fs id)∧(B::(S.st++st)).Perm st':=by
 have hxm:=List.mem_of_getElem? hx
 have hl:=(hS.pk x hxm).2.2
 have h2:=Rk S.g 115 (Hf S.ns k x) (Fr S.ns k x S.zs) x.fm x.fs id (hS.okx x hxm).1 q_o (B::(x.tm.resT x.ts++(S.off k++st)))
 rw[He hx] at h2
 exact(TrF.perm (NC.get_F hx B st) h2).mono fun d st' ⟨h3,h4⟩=>⟨h3,by rw[h4];exact NC.get_F hx B st⟩
end
theorem Ta(S1 : NC)(k nb:Nat)(x:Nd)(F:List Fc)(f:Fc)(hx:S1.ns[k]?=some x)(hkn:k+1<S1.ns.length)(hfs:x.fs=F++[f])(hid:f.id∉F.map Fc.id)(hF:F.length<1000)(hf:FK f)(h0:Nt.StepJ S1 x.ts k x.p F 0 S1)(st:St) :
 TrF Tryz.prog 100 [.ptr S1.g (k*9),.agg f.cells,.fn (.func 101) [] [.ptr nb 0,.ip [.ptr S1.c 0],.ip f.cells]] (.box nb 164 [.ptr S1.g (k*9)]::(S1.st++st)) fun d st'=>∃S',Nt.Str S' []∧Nt.Loc S' []∧Nt.Kept S1 S'∧d=.tup []∧(Res.box nb 164 [.ptr S1.g (k*9)]::(S'.st++st)).Perm st':=by
 have hnd:=h0.str.tn k x hx
 have hlen:∀env,(Mat.passL x.p F env).length≤F.length:=fun env=>List.length_filterMap_le ..
 refine(NI S1 k x f (.box nb 164 [.ptr S1.g (k*9)]) 101 [.ptr nb 0,.ip [.ptr S1.c 0],.ip f.cells] (Nt.StepJ S1 x.ts k x.p F) hx h0.str hf (Lib.hid Tryz.call101) h0 (fun j Sj h=>⟨h.str,h.kept⟩) (fun j b Sj hb h=>?_) (fun j b Sj w hb h hw hwb hp=>?_) (fun j b Sj w e hb h hw hwb hp st=>?_) st).mono fun d st' ⟨S',h1,h2,h3⟩=>⟨S',h1.str,h1.done,h1.kept,h2,h3⟩
 · obtain⟨w,w1,w2, -⟩:=h.tok hb
   exact⟨w,w1,w2⟩
 · refine h.same hnd hb hw hwb hx q_o ?_
   have:Mat.passL x.p x.fs w.env=Mat.passL x.p F w.env:=by
    rw[hfs]
    unfold Mat.passL
    rw[List.filterMap_append,List.filterMap_cons_none (by rw[hp];rfl),List.filterMap_nil,List.append_nil]
   rw[this]
 · obtain⟨w0,q1,q2,q3,q4⟩:=h.tok hb
   have:=h.str.same q1 hw (q2.trans hwb.symm)
   subst this
   obtain⟨y,y1,y2,y3⟩:=h.kept.ns k x hx
   have hek:=h.str.ek w0 hw
   have hee:EK e:=⟨Mat.pass_mem hp (fun z hz=>(hf.v z hz).1.bg) hek.v,by rw[Mat.pass_len hp];decide⟩
   cases hn:x.p.neg with
   | false =>
    have hkid:w0.kids.length<1000:=by
     have h1:=q4.kids h.str hw
     have h2:Nt.exps x.p F w0.env=Mat.passL x.p F w0.env:=by unfold Nt.exps;rw[if_neg (by rw[hn];decide)]
     rw[h2] at h1
     have:=hlen w0.env
     omega
    have hbm:w0.b∈x.ts.drop j:=by rw[q2,V.drop_cons hb];exact List.mem_cons_self ..
    have h1:=Wo Sj w0 (x.ts.drop j) k nb y f e y1 (by rw[y2];exact hn) h.str h.loc hbm hw q3 (by rw[h.kept.nl];exact hkn) hee hkid st
    rw[h.kept.c,h.kept.g,q2] at h1
    exact h1.mono fun d st' ⟨S',a1,a2,a3,a4,a5⟩=>⟨S',h.pos hnd hb hw hwb hx q_o hn hfs hid hp a1 a2 a3,a4,a5⟩
   | true =>
    have hct:=q4.ct
    unfold Nt.cnt at hct
    rw[if_pos hn] at hct
    have:=hlen w0.env
    obtain⟨Hj,hpj⟩:=Nt.tok_split hw
    have h1:=Wp Sj w0 Hj k nb y f e y1 (by rw[y2];exact hn) h.str hpj q3 q_o st
    rw[h.kept.c,h.kept.g,q2] at h1
    exact h1.mono fun d st' ⟨S',a1,a2,a4,a5⟩=>⟨S',h.neg hnd hb hw hwb hx q_o hn hfs hp hpj q_o a1 a2,a4,a5⟩
theorem Ps(S1 : NC)(k nb:Nat)(x:Nd)(F:List Fc)(f:Fc)(hx:S1.ns[k]?=some x)(hkn:k+1<S1.ns.length)(hF:F.Perm (f::x.fs))(hid:f.id∉x.fs.map Fc.id)(hf:FK f)(hFl:F.length≤1000)(h0:Nt.StepJ S1 x.ts k x.p F 0 S1)(st:St) :
 TrF Tryz.prog 100 [.ptr S1.g (k*9),.agg f.cells,.fn (.func 103) [] [.ptr nb 0,.ip [.ptr S1.c 0],.ip [.i f.id]]] (.box nb 164 [.ptr S1.g (k*9)]::(S1.st++st)) fun d st'=>∃S',Nt.Str S' []∧Nt.Loc S' []∧Nt.Kept S1 S'∧d=.tup []∧(Res.box nb 164 [.ptr S1.g (k*9)]::(S'.st++st)).Perm st':=by
 have hnd:=h0.str.tn k x hx
 have hlen:∀env,(Mat.passL x.p F env).length≤F.length:=fun env=>List.length_filterMap_le ..
 refine(NI S1 k x f (.box nb 164 [.ptr S1.g (k*9)]) 103 [.ptr nb 0,.ip [.ptr S1.c 0],.ip [.i f.id]] (Nt.StepJ S1 x.ts k x.p F) hx h0.str hf (Lib.hid Tryz.call103) h0 (fun j Sj h=>⟨h.str,h.kept⟩) (fun j b Sj hb h=>?_) (fun j b Sj w hb h hw hwb hp=>?_) (fun j b Sj w e hb h hw hwb hp st=>?_) st).mono fun d st' ⟨S',h1,h2,h3⟩=>⟨S',h1.str,h1.done,h1.kept,h2,h3⟩
 · obtain⟨w,w1,w2, -⟩:=h.tok hb
   exact⟨w,w1,w2⟩
 · refine h.same hnd hb hw hwb hx q_o ?_
   have h1:=Nt.passL_perm (p:=x.p) hF w.env
   rw[Nt.passL_none hp] at h1
   exact h1.symm
 · obtain⟨w0,q1,q2,q3,q4⟩:=h.tok hb
   have:=h.str.same q1 hw (q2.trans hwb.symm)
   subst this
   obtain⟨y,y1,y2,y3⟩:=h.kept.ns k x hx
   have hbm:w0.b∈x.ts.drop j:=by rw[q2,V.drop_cons hb];exact List.mem_cons_self ..
   cases hn:x.p.neg with
   | false =>
    have h1:=Tp Sj w0 k nb y f.id e (Nt.KidJ Sj w0 f.id (x.ts.drop j)) y1 (by rw[y2];exact hn) h.str hw q3 (Nt.KidJ.zero h.str h.loc hw) (fun i Si hi=>⟨hi.str,hi.kept⟩) (fun i c Si hc hi=>by
     obtain⟨u,u1,u2,u3⟩:=hi.kid h.str hw hc
     exact⟨u,u1,u2,by rw[Nt.tok_b (hi.str.ne u u1),u3,List.length_cons,q3]⟩) (fun i c Si u hc hi hu hub hne=>hi.no hc hu hub hne) (fun i c Si u S' hc hi hu hub he hS' hR=>hi.yes h.str hw hbm hc hu hub he hS' hR) st
    rw[h.kept.c,h.kept.g,q2] at h1
    exact h1.mono fun d st' ⟨S',a1,a2,a3⟩=>⟨S',h.kids hnd hb hw hwb hx q_o hn hF hid hp a1,a2,a3⟩
   | true =>
    have hct:=q4.ct
    have hl:(Mat.passL x.p F w0.env).length=(Mat.passL x.p x.fs w0.env).length+1:=by
     rw[(Nt.passL_perm hF w0.env).length_eq,Nt.passL_some hp,List.length_cons]
    unfold Nt.cnt at hct
    rw[if_pos hn] at hct
    have:=hlen w0.env
    obtain⟨Hj,hpj⟩:=Nt.tok_split hw
    by_cases h1c:w0.count=1
    · have hkid : w0.kids.length < 1000 := by
       have h1:=q4.kids h.str hw
       have h2:Nt.exps x.p F w0.env=[]:=by
        unfold Nt.exps
        rw[if_pos hn,if_neg (fun e=>by rw[e] at hl;cases hl)]
       rw[h2] at h1
       have h1:w0.kids.length≤0:=h1
       omega
      have h1:=PA Sj w0 Hj (x.ts.drop j) k nb y f.id e y1 (by rw[y2];exact hn) h.str h.loc hbm hpj q3 (by rw[h.kept.nl];exact hkn) hkid h1c st
      rw[h.kept.c,h.kept.g,q2] at h1
      exact h1.mono fun d st' ⟨S',a1,a2,a3,a4,a5⟩=>⟨S',h.last hnd hb hw hwb hx q_o hn hF hp hpj h1c a1 a2 a3,a4,a5⟩
    · have h1:=Tq Sj w0 Hj k nb y f.id e y1 (by rw[y2];exact hn) hpj q_o st
      rw[h.kept.c,h.kept.g,q2] at h1
      exact h1.mono fun d st' ⟨a4,a5⟩=>⟨_,h.less hnd hb hw hwb hx q_o hn hF hp hpj q_o,a4,a5⟩
end Go.Proofs.YtoeidpmjifjplaaGreat
