/- Texts put together. No statement is proved here. -/
import Derived.Shelf.SlSortCmp.NoneTotal
import Derived.Ground.SlsfProg
import Derived.Test.YtoeidpmjifjplaaGreatZ8
set_option linter.all false
set_option maxRecDepth 10000
set_option maxHeartbeats 8000000
namespace Go.Proofs.YtoeidpmjifjplaaGreat
open Go.RowKit
section
attribute [local push_cast] Ad Ae Ao V.cells_mk V.cells_len Nat.mul_one Int.sub_zero List.map_nil beq_self_eq_true bne_self_eq_false List.head?_cons Bool.not_true Bool.not_false Nat.zero_add Fl Fm
attribute [-instance] Aq Av Am AV
namespace Nt
variable {S S':NC} {E X:List Nat} {t u v:Tok} {H0:List Tok}
theorem tok_split(h:t∈S.H):∃H0,S.H.Perm (t::H0):=by
 obtain⟨l1,l2,e⟩:=List.append_of_mem h
 exact⟨l1++l2,by rw[e];exact List.perm_middle⟩
theorem tok_box(h:u∈S.H):Res.box u.b 119 u.cells∈S.st :=
 List.mem_cons_of_mem _ (List.mem_cons_of_mem _ (List.mem_append_right _ (List.mem_flatMap.2 ⟨u,h,List.mem_cons_self ..⟩)))
theorem Jf(h:Str S E)(hp:S.H.Perm (t::H0)):∀u∈H0,u.anc≠t.anc:=fun u hu e=>by
 have hnd:=(hp.map Tok.b).nodup_iff.1 h.nd
 rw[List.map_cons,List.nodup_cons] at hnd
 exact hnd.1 (List.mem_map.2 ⟨u,hu,by unfold Tok.b;rw[e]⟩)
theorem Loc.addKid(h:Str S [])(hL:Loc S X)(hp:S.H.Perm (t::H0))(htX:t.b∈X){kb:Nat}{id:Int}{env:List V}{M:MemP}:Loc (Nt.addKid S H0 t kb id env M) (kb::X):=by
 intro u hu huX
 rw[List.mem_cons,not_or] at huX
 have hu0:u∈H0:=by
  have hu:u∈kidOf t kb id env::withKid t kb M::H0:=hu
  rw[List.mem_cons,List.mem_cons] at hu
  rcases hu with rfl|rfl|hu
  · exact absurd rfl huX.1
  · exact absurd htX huX.2
  · exact hu
 have huS:=(memH hp).2 (.inr hu0)
 have hne:=Jf h hp u hu0
 have hk:=hL u huS huX.2
 unfold LocOk at hk ⊢
 show if u.anc.length=S.ns.length then _ else _
 split
 · rename_i e;rw[if_pos e] at hk;exact hk
 · rename_i e
   rw[if_neg e] at hk
   intro x hx
   obtain⟨h1,h2,h3,h4⟩:=hk x hx
   have hm:∀w,w∈(Nt.addKid S H0 t kb id env M).H→w.anc.tail=u.anc→∃w0∈S.H,w0.anc=w.anc∧w0.id=w.id∧w0.env=w.env∧(w=w0∨w=withKid t kb M∧w0=t):=fun w hw e=>by
    have hw:w∈kidOf t kb id env::withKid t kb M::H0:=hw
    rw[List.mem_cons,List.mem_cons] at hw
    rcases hw with rfl|rfl|hw
    · exact absurd e.symm hne
    · exact⟨t,(memH hp).2 (.inl rfl),rfl,rfl,rfl,.inr ⟨rfl,rfl⟩⟩
    · exact⟨w,(memH hp).2 (.inr hw),rfl,rfl,rfl,.inl rfl⟩
   refine⟨h1,fun w hw e=>?_,fun y hy=>?_,fun w hw w' hw' e e' e2=>?_⟩
   · obtain⟨w0,k1,k2,k3,k4, -⟩:=hm w hw e
     rw[←k3,←k4]
     exact h2 w0 k1 (by rw[k2];exact e)
   · obtain⟨w,k1,k2,k3⟩:=h3 y hy
     rcases(memH hp).1 k1 with rfl|k1
     · exact⟨withKid w kb M,List.mem_cons_of_mem _ (List.mem_cons_self ..),k2,k3⟩
     · exact⟨w,List.mem_cons_of_mem _ (List.mem_cons_of_mem _ k1),k2,k3⟩
   · obtain⟨w0,k1,k2,k3, -,k5⟩:=hm w hw e
     obtain⟨v0,q1,q2,q3, -,q5⟩:=hm w' hw' e'
     have:=h4 w0 k1 v0 q1 (by rw[k2];exact e) (by rw[q2];exact e') (by rw[k3,q3];exact e2)
     subst this
     rcases k5 with rfl|⟨rfl,rfl⟩
     · rcases q5 with rfl|⟨rfl,e3⟩
       · rfl
       · rw[e3] at hw
         have hw:t∈kidOf t kb id env::withKid t kb M::H0:=hw
         rw[List.mem_cons,List.mem_cons] at hw
         rcases hw with e4|e4|e4
         · have:=congrArg (fun t:Tok=>t.anc.length) e4
           exact absurd this (Nat.ne_of_lt (Nat.lt_succ_self _))
         · rw[e3];exact e4
         · exact absurd rfl (Jf h hp t e4)
     · rcases q5 with e3|⟨rfl, -⟩
       · rw[←e3] at hw'
         have hw':w0∈kidOf w0 kb id env::withKid w0 kb M::H0:=e3▸hw'
         rw[List.mem_cons,List.mem_cons] at hw'
         rcases hw' with e4|e4|e4
         · have:=congrArg (fun t:Tok=>t.anc.length) e4
           exact absurd this (Nat.ne_of_lt (Nat.lt_succ_self _))
         · rw[e3,←e4]
         · exact absurd rfl (Jf h hp w0 e4)
       · rfl
theorem Grew.extR(h:Str S [])(hp:S.H.Perm (t::H0)){kb:Nat}{id:Int}{env:List V}{M:MemP}(hf:∀u∈S.H,u.b≠kb)(hG:Grew (Nt.addKid S H0 t kb id env M) S' (kidOf t kb id env)):ExtR S S' t id env:=by
 have hsuf:¬(kb::t.anc) <:+ t.anc:=fun h=>by have:=h.length_le;rw[List.length_cons] at this;omega
 refine⟨⟨hG.c,hG.g,hG.cap,hG.zs,hG.nl,hG.ns⟩,kb,hf,fun u hu hs=>?_,⟨withKid t kb M,(hG.keep (withKid t kb M) hsuf).1 (List.mem_cons_of_mem _ (List.mem_cons_self ..)),rfl,rfl,rfl,rfl,rfl⟩,?_⟩
 · rw[←hG.keep u hs]
   show u∈S.H↔u∈kidOf t kb id env::withKid t kb M::H0
   rw[memH hp,List.mem_cons,List.mem_cons]
   constructor
   · rintro(rfl|h)
     · exact absurd rfl hu
     · exact .inr (.inr h)
   · rintro(rfl|rfl|h)
     · exact absurd (List.suffix_refl _) hs
     · exact absurd rfl hu
     · exact .inr h
 · obtain⟨t',k1,k2,k3,k4⟩:=hG.self
   exact⟨t',k1,k2,k3,k4⟩
end Nt
def Qm (k:Nat):Prop:=∀(S:NC) (t:Tok) (X:List Nat),Nt.Str S [t.b]→Nt.Loc S (t.b::X)→t∈S.H→t.anc.length=k+1→t.kids=[]→t.count=0→∀st,TrF Tryz.prog 63 [.ptr S.c 0,.ptr t.b 0] (S.st++st) fun d st'=>∃S',Nt.Str S' []∧Nt.Loc S' X∧Nt.Grew S S' t∧d=.tup []∧(S'.st++st).Perm st'
def Hz (k:Nat):Prop:=∀(S:NC) (t:Tok) (X:List Nat) (id:Int) (env:List V),Nt.Str S []→Nt.Loc S X→t.b∈X→t∈S.H→t.anc.length=k+1→k+1<S.ns.length→EK env→t.kids.length<1000→∀st,TrF Tryz.prog 97 [.ptr S.c 0,.ptr t.b 0,.i id,.sl .shared (env.map V.cells)] (S.st++st) fun d st'=>∃S',Nt.Str S' []∧Nt.Loc S' X∧Nt.ExtR S S' t id env∧d=.tup []∧(S'.st++st).Perm st'
theorem Ys(k:Nat)(hE:Qm (k+1)):Hz k:=by
 intro S t X id env hS hL htX ht hk hlt he hkl st
 obtain⟨H0,hp⟩:=Nt.tok_split ht
 have hlv:t.lv=k:=by unfold Tok.lv;omega
 have hkc:∀kb,(Nt.kidOf t kb id env).cells=[.ptr t.b 0,.i ((k:Int)+1),.i id,.sl .shared (env.map V.cells),.s (.map none),.sl .tight [],.sl .tight [],.i 0]:=fun kb=>by
  have h1:(Nt.kidOf t kb id env).fromD=.ptr t.b 0:=by
   unfold Tok.fromD
   show(match t.anc with|[]=>_|p::_=>_)=_
   rw[Nt.tok_b (hS.ne t ht)]
  have h2:(Nt.kidOf t kb id env).lv=k+1:=by
   show t.anc.length+1 - 1=k+1
   omega
  unfold Tok.cells Tok.pre
  rw[h1,h2]
  rfl
 have hput:Hid (∀kb,TrF Tryz.prog 96 [.ptr t.b t.pre.length,.ptr kb 0,.ptr kb 0] (.box t.b 119 (t.pre++(t.km.cells t.kids.length++[.i t.count]))::(t.km.resT t.kids++(.box kb 119 (Nt.kidOf t kb id env).cells::(({S with H:=H0}:NC).st++st)))) fun d st'=>∃M':MemP,(∀u∈S.H,u.b≠kb)∧M'.okT (t.kids++[kb])∧d=.tup []∧(Res.box t.b 119 (t.pre++(M'.cells (t.kids.length+1)++[.i t.count]))::(M'.resT (t.kids++[kb])++(.box kb 119 (Nt.kidOf t kb id env).cells::(({S with H:=H0}:NC).st++st)))).Perm st'):=fun kb=>by
  refine TrF.pw fun hap=>?_
  have hkm:Res.box kb 119 (Nt.kidOf t kb id env).cells∈t.km.resT t.kids++(.box kb 119 (Nt.kidOf t kb id env).cells::(({S with H:=H0}:NC).st++st)):=List.mem_append_right _ (List.mem_cons_self ..)
  have hf:∀u∈S.H,u.b≠kb:=fun u hu e=>by
   rcases(Nt.memH hp).1 hu with rfl|hu0
   · exact(List.pairwise_cons.1 hap).1 _ hkm _ rfl (by rw[e];rfl)
   · have h1:=(List.pairwise_append.1 (List.pairwise_cons.1 hap).2).2.1
     exact(List.pairwise_cons.1 h1).1 _ (List.mem_append_left _ (Nt.tok_box (S:={S with H:=H0}) hu0)) _ rfl (by rw[e];rfl)
  refine(Qz t.b 119 t.pre [.i t.count] t.km t.kids kb (hS.okt t ht) (fun hb=>?_) q_o _ (fun b hb=>?_)).mono fun d st' ⟨M',h1,h2,h3⟩=>⟨M',hf,h1,h2,h3⟩
  · obtain⟨w,hw,e, -⟩:=(hS.km t ht kb).1 hb
    exact hf w hw e
  · rcases List.mem_cons.1 hb with rfl|hb
    · exact .inr ⟨_,_,List.mem_cons_self ..⟩
    · obtain⟨w,hw,e, -⟩:=(hS.km t ht b).1 hb
      rcases(Nt.memH hp).1 hw with rfl|hw0
      · exact .inl e.symm
      · rw[←e]
        exact .inr ⟨_,_,List.mem_cons_of_mem _ (List.mem_append_left _ (Nt.tok_box (S:={S with H:=H0}) hw0))⟩
 have hent:Hid (∀(kb:Nat) (M:MemP),(∀u∈S.H,u.b≠kb)→M.okT (t.kids++[kb])→TrF Tryz.prog 63 [.ptr S.c 0,.ptr kb 0] ((Nt.addKid S H0 t kb id env M).st++st) fun d st'=>∃S',Nt.Str S' []∧Nt.Loc S' X∧Nt.ExtR S S' t id env∧d=.tup []∧(S'.st++st).Perm st'):=fun kb M hf hM =>
  (hE (Nt.addKid S H0 t kb id env M) (Nt.kidOf t kb id env) X (hS.addKid hp q_o hf hM he hkl) (hL.addKid hS hp htX) (List.mem_cons_self ..) (by show t.anc.length+1=_;omega) rfl rfl st).mono fun d st' ⟨S',h1,h2,h3,h4,h5⟩=>⟨S',h1,h2,h3.extR hS hp hf,h4,h5⟩
 have hperm:Hid (∀(kb:Nat) (M:MemP) (st':St),(Res.box t.b 119 (t.pre++(M.cells (t.kids.length+1)++[.i t.count]))::(M.resT (t.kids++[kb])++(.box kb 119 (Nt.kidOf t kb id env).cells::(({S with H:=H0}:NC).st++st)))).Perm st'→st'.Perm ((Nt.addKid S H0 t kb id env M).st++st)):=fun kb M st' h=>by
  refine h.symm.trans ?_
  have h1:=NC.at_tok (S:=Nt.addKid S H0 t kb id env M) (t:=Nt.kidOf t kb id env) (H0:=Nt.withKid t kb M::H0) (.refl _)
  have h2:=NC.at_tok (S:={S with H:=Nt.withKid t kb M::H0}) (t:=Nt.withKid t kb M) (H0:=H0) (.refl _)
  have h3:((Nt.addKid S H0 t kb id env M).st++st).Perm (.box kb 119 (Nt.kidOf t kb id env).cells::(.box t.b 119 (Nt.withKid t kb M).cells::(M.resT (t.kids++[kb])++({S with H:=H0}:NC).st)++st)):=(h1.append_right st).trans (List.Perm.cons _ (h2.append_right st))
  refine List.Perm.trans ?_ h3.symm
  have h4:(Nt.withKid t kb M).cells=t.pre++(M.cells (t.kids.length+1)++[.i t.count]):=by
   show(Nt.withKid t kb M).pre++(M.cells (t.kids++[kb]).length++[.i t.count])=_
   rw[List.length_append]
   rfl
  rw[h4,List.cons_append,List.append_assoc]
  exact(BH _ _ _ _).symm
 have hstart:=(NC.at_tok hp).append_right st
 unfold Tok.cells at hstart
 rw[List.cons_append,List.append_assoc] at hstart
 refine TrF.perm hstart ?_
 have hk5:k≤1000:=by have:=hS.nl;omega
 clear hstart hE hS hL htX ht hk hlt he hp
 have hpl:t.pre.length=4:=rfl
 rw[hpl] at hput
 simp only[hkc] at hput hperm
 have hpre:t.pre=[t.fromD,.i k,.i t.id,.sl .shared (t.env.map V.cells)]:=by unfold Tok.pre;rw[hlv]
 rw[hpre] at hput hperm ⊢
 clear hkc hpl hpre hlv
 generalize t.fromD=fd at *
 generalize t.env.map V.cells=TE at *
 generalize env.map V.cells=EC at *
 generalize ({S with H:=H0}:NC).st++st=ST at *
 generalize hKC:t.km.cells t.kids.length=KC at *
 generalize hKR:t.km.resT t.kids=KR at *
 refine Qin [] Tryz.func97 Tryz.results97 Tryz.ntmps97 ?_
 repeat' (first|refine QV ?_|with_reducible refine Co ?_|((with_reducible apply(Ah (f:=96) (henter:=Tryz.call96) (hp:=BH _ _ _ _) (h:=hput.out _)));(focus exact q_v);(focus(first|exact LEL.refl _|((repeat' (first|exact LEL.nil|refine LEL.cons ?_ ?_|exact LE.refl _|exact LE.sl _ _|refine LE.agg ?_));done)));(rintro d0 st0 ⟨M2,hfr,hok2,rfl,hp2⟩))|((with_reducible apply(Ah (f:=63) (henter:=Tryz.call63) (hp:=hperm.out _ _ _ hp2) (h:=hent.out _ _ hfr hok2)));(focus exact q_v);(focus(first|exact LEL.refl _|((repeat' (first|exact LEL.nil|refine LEL.cons ?_ ?_|exact LE.refl _|exact LE.sl _ _|refine LE.agg ?_));done)));(rintro d0 st0 ⟨S',h1,h2,h3,rfl,hp3⟩))|refine QY ?_|(refine QB ?_;intro b)|(with_reducible refine QZ ?_<;>(try constructor)<;>intro hb<;>try intro hb1)|fail)
 exact Ab (by simp) q_y (List.Sublist.refl _) (LE.refl _) ⟨S',h1,h2,h3,rfl,hp3⟩
end
section
namespace Nt
variable {S S' S'':NC} {E X:List Nat} {t u v t':Tok} {H0:List Tok}
def putT (S:NC)(k:Nat)(x:Nd)(b:Nat)(M:MemP):NC:={S with ns:=S.ns.set k {x with ts:=x.ts++[b],tm:=M} }
theorem Ed{ns:List Nd}{k:Nat}{x y:Nd}(h:ns[k]?=some x){i:Nat}{z:Nd}(hz:(ns.set k y)[i]?=some z):(i=k∧z=y)∨(i≠k∧ns[i]?=some z):=by
 rw[List.getElem?_set] at hz
 split at hz
 · rename_i e
   subst e
   rw[if_pos (List.getElem?_eq_some_iff.1 h).1] at hz
   exact .inl ⟨rfl,(Option.some.inj hz).symm⟩
 · rename_i e
   exact .inr ⟨fun e1=>e e1.symm,hz⟩
theorem kept_putT{k:Nat}{x:Nd}{b:Nat}{M:MemP}(hx:S.ns[k]?=some x):Kept S (putT S k x b M):=by
 refine⟨rfl,rfl,rfl,rfl,List.length_set ..,fun i y hy=>?_⟩
 by_cases e:i=k
 · subst e
   rw[hx] at hy
   cases hy
   exact⟨_,List.getElem?_set_self (List.getElem?_eq_some_iff.1 hx).1,rfl,rfl⟩
 · exact⟨y,by show(S.ns.set k _)[i]?=_;rw[List.getElem?_set_ne (fun e1=>e e1.symm)];exact hy,rfl,rfl⟩
theorem Str.putT(h:Str S [t.b])(ht:t∈S.H){k:Nat}{x:Nd}{M:MemP}(hk:t.anc.length=k+1)(hx:S.ns[k]?=some x)(hM:M.okT (x.ts++[t.b])):Str (Nt.putT S k x t.b M) []:=by
 have hxm:=List.mem_of_getElem? hx
 have hno:t.b∉x.ts:=fun hb=>by
  obtain⟨w,hw,e1, -,e3⟩:=(h.tm k x hx t.b).1 hb
  exact e3 (List.mem_singleton.2 rfl)
 refine⟨h.ne,h.nd,h.up,h.rt,h.kn,h.km,h.kl,fun w hw=>?_,fun i y hy=>?_,fun i y hy b=>?_,h.okt,fun y hy=>?_,?_,?_,h.ek,fun y hy=>?_,h.ct,h.rx⟩
 · show _≤(S.ns.set k _).length
   rw[List.length_set];exact h.lv w hw
 · rcases Ed hx hy with⟨-,rfl⟩|⟨-,hy⟩
   · show(x.ts++[t.b]).Nodup
     rw[List.nodup_append]
     refine⟨h.tn k x hx,List.nodup_cons.2 ⟨List.not_mem_nil,List.nodup_nil⟩,?_⟩
     rintro a ha c hc rfl
     rw[List.mem_singleton.1 hc] at ha
     exact hno ha
   · exact h.tn i y hy
 · show b∈y.ts↔∃u∈S.H,_
   rcases Ed hx hy with⟨rfl,rfl⟩|⟨hi,hy⟩
   · show b∈x.ts++[t.b]↔_
     rw[List.mem_append,List.mem_singleton,h.tm _ x hx b]
     constructor
     · rintro(⟨w,hw,e1,e2, -⟩|rfl)
       · exact⟨w,hw,e1,e2,List.not_mem_nil⟩
       · exact⟨t,ht,rfl,hk,List.not_mem_nil⟩
     · rintro⟨w,hw,e1,e2, -⟩
       by_cases e:b=t.b
       · exact .inr e
       · exact .inl ⟨w,hw,e1,e2,fun hb=>e (List.mem_singleton.1 hb)⟩
   · rw[h.tm i y hy b]
     constructor
     · rintro⟨w,hw,e1,e2, -⟩;exact⟨w,hw,e1,e2,List.not_mem_nil⟩
     · rintro⟨w,hw,e1,e2, -⟩
       refine⟨w,hw,e1,e2,fun hb=>?_⟩
       rw[List.mem_singleton] at hb
       have:=h.same hw ht (e1.trans hb)
       rw[this,hk] at e2
       omega
 · rcases List.getElem?_of_mem hy with⟨i,hi⟩
   rcases Ed hx hi with⟨-,rfl⟩|⟨-,hi⟩
   · exact⟨(h.okx x hxm).1,hM⟩
   · exact h.okx y (List.mem_of_getElem? hi)
 · show(Az (S.ns.set k _)++S.zs).length=_
   rw[List.length_append,AZ,List.length_set,←AZ,←List.length_append]
   exact h.row
 · show(S.ns.set k _).length≤5
   rw[List.length_set];exact h.nl
 · rcases List.getElem?_of_mem hy with⟨i,hi⟩
   rcases Ed hx hi with⟨-,rfl⟩|⟨-,hi⟩
   · exact h.pk x hxm
   · exact h.pk y (List.mem_of_getElem? hi)
theorem Loc.putT(h:Loc S X){k:Nat}{x:Nd}{b:Nat}{M:MemP}(hx:S.ns[k]?=some x):Loc (Nt.putT S k x b M) X:=fun u hu huX=>by
 have:=h u hu huX
 unfold LocOk at this ⊢
 show if u.anc.length=(S.ns.set k _).length then _ else _
 rw[List.length_set]
 split
 · rename_i e;rw[if_pos e] at this;exact this
 · rename_i e
   rw[if_neg e] at this
   intro y hy
   rcases Ed hx hy with⟨e1,rfl⟩|⟨-,hy⟩
   · rw[e1] at this
     exact this x hx
   · exact this y hy
structure Part (S:NC)(t:Tok)(L:List (Int×List V))(c:Int):Prop where
 ct:t.count=c
 sub:∀u∈S.H,u.anc.tail=t.anc→(u.id,u.env)∈L
 all:∀y∈L,∃u∈S.H,u.anc.tail=t.anc∧(u.id,u.env)=y
 one:∀u∈S.H,∀v∈S.H,u.anc.tail=t.anc→v.anc.tail=t.anc→u.id=v.id→u=v
theorem Part.loc{x:Nd}(h:Part S t (exps x.p x.fs t.env) (cnt x.p x.fs t.env))(hk:t.anc.length≠S.ns.length)(hx:S.ns[t.anc.length - 1]?=some x):LocOk S t:=by
 unfold LocOk
 rw[if_neg hk]
 intro y hy
 rw[hx] at hy
 cases hy
 exact⟨h.ct,h.sub,h.all,h.one⟩
theorem FZ{l m:List Nat}(h:l <:+ m)(e:m.length≤l.length):l=m:=by
 obtain⟨p,hp⟩:=h
 have:=congrArg List.length hp
 rw[List.length_append] at this
 have:p=[]:=List.eq_nil_of_length_eq_zero q_o
 rw[this,List.nil_append] at hp
 exact hp
theorem ExtR.grew{id:Int}{env:List V}(h:ExtR S S' t id env):Grew S S' t:=by
 obtain⟨kb,h1,h2,⟨t',k1,k2,k3,k4, -⟩, -⟩:=h.ex
 refine⟨h.toKept,fun u hu=>h2 u (fun e=>hu (e▸List.suffix_refl _)) (fun hs=>hu ((List.suffix_cons kb t.anc).trans hs)),t',k1,k2,k3,k4⟩
theorem Grew.trans(h:Grew S S' t)(ha:t'.anc=t.anc)(hi:t'.id=t.id)(he:t'.env=t.env)(k:Grew S' S'' t'):Grew S S'' t:=by
 refine⟨h.toKept.trans k.toKept,fun u hu=>(h.keep u hu).trans (k.keep u (by rw[ha];exact hu)),?_⟩
 obtain⟨w,k1,k2,k3,k4⟩:=k.self
 exact⟨w,k1,k2.trans ha,k3.trans hi,k4.trans he⟩
theorem Part.ext{L:List (Int×List V)}{c:Int}(hS':Str S' [])(ht:t∈S.H)(h:Part S t L c){id:Int}{env:List V}(hid:id∉L.map Prod.fst)(hE:ExtR S S' t id env):∃t'∈S'.H,t'.anc=t.anc∧t'.id=t.id∧t'.env=t.env∧Part S' t' (L++[(id,env)]) c:=by
 obtain⟨kb,h1,h2,⟨t',k1,k2,k3,k4,k5,k6⟩,w,w1,w2,w3,w4⟩:=hE.ex
 have old:∀u∈S'.H,u.anc.tail=t.anc→u=w∨u∈S.H:=fun u hu e=>by
  by_cases ew:u.anc=w.anc
  · exact .inl (hS'.anc_b hu w1 ew)
  · have hul : u.anc.length = t.anc.length + 1 := by
     have:=tok_b (hS'.ne u hu)
     rw[this,e,List.length_cons]
    refine .inr ((h2 u (fun e1=>by rw[e1] at hul;omega) fun hs=>ew ?_).2 hu)
    rw[w2]
    exact(FZ hs (by rw[hul,List.length_cons];exact Nat.le_refl _)).symm
 have new:∀u∈S.H,u.anc.tail=t.anc→u∈S'.H:=fun u hu e=>by
  have hne:u.anc≠[]:=fun e0=>by
   rw[e0] at e
   have:=hS'.ne t' k1
   rw[k2,←e] at this
   exact this rfl
  have hul:u.anc.length=t.anc.length+1:=by
   have:=tok_b hne
   rw[this,e,List.length_cons]
  refine(h2 u (fun e1=>by rw[e1] at hul;omega) fun hs=>?_).1 hu
  have:=FZ hs (by rw[hul,List.length_cons];exact Nat.le_refl _)
  refine h1 u hu ?_
  unfold Tok.b
  rw[←this]
  rfl
 have hwt:w.anc.tail=t.anc:=by rw[w2];rfl
 refine⟨t',k1,k2,k3,k4,⟨k5.trans h.ct,fun u hu e=>?_,fun y hy=>?_,fun u hu v hv e e' e2=>?_⟩⟩
 · rw[k2] at e
   rcases old u hu e with rfl|hu
   · rw[w3,w4];exact List.mem_append_right _ (List.mem_singleton.2 rfl)
   · exact List.mem_append_left _ (h.sub u hu e)
 · rw[k2]
   rcases List.mem_append.1 hy with hy|hy
   · obtain⟨u,q1,q2,q3⟩:=h.all y hy
     exact⟨u,new u q1 q2,q2,q3⟩
   · rw[List.mem_singleton.1 hy]
     exact⟨w,w1,hwt,by rw[w3,w4]⟩
 · rw[k2] at e e'
   rcases old u hu e with rfl|hu
   · rcases old v hv e' with rfl|hv
     · rfl
     · refine absurd (List.mem_map.2 ⟨_,h.sub v hv e',?_⟩) hid
       show v.id=id
       rw[←e2,w3]
   · rcases old v hv e' with rfl|hv
     · refine absurd (List.mem_map.2 ⟨_,h.sub u hu e,?_⟩) hid
       show u.id=id
       rw[e2,w3]
     · exact h.one u hu v hv e e' e2
theorem Hg{α:Type}:∀{l m:List α},l.Nodup→(∀i∈l,i∈m)→l.length≤m.length
|[],_,_,_=>Nat.zero_le _
|a::l,m,h,hs=>by
  rw[List.nodup_cons] at h
  obtain⟨m1,m2,rfl⟩:=List.append_of_mem (hs a (List.mem_cons_self ..))
  have:=Hg (l:=l) (m:=m1++m2) h.2 fun i hi=>by
   have h1:=hs i (List.mem_cons_of_mem _ hi)
   rw[List.mem_append,List.mem_cons] at h1
   rcases h1 with h1|rfl|h1
   · exact List.mem_append_left _ h1
   · exact absurd hi h.1
   · exact List.mem_append_right _ h1
  rw[List.length_append,List.length_cons,List.length_cons]
  rw[List.length_append] at this
  omega
theorem Part.kids{L:List (Int×List V)}{c:Int}(hS:Str S E)(ht:t∈S.H)(h:Part S t L c):t.kids.length≤L.length:=by
 have hx:∀b∈t.kids,∃u∈S.H,u.b=b∧u.anc.tail=t.anc:=fun b hb=>(hS.km t ht b).1 hb
 have hnd:=hS.kn t ht
 have key:∀l:List Nat,l.Nodup→(∀b∈l,b∈t.kids)→∃m:List Int,m.length=l.length∧m.Nodup∧(∀i∈m,i∈L.map Prod.fst)∧∀i∈m,∃u∈S.H,u.b∈l∧u.anc.tail=t.anc∧u.id=i:=by
  intro l
  induction l with
  | nil=>exact fun _ _=>⟨[],rfl,List.nodup_nil,fun i h=>(by cases h),fun i h=>(by cases h)⟩
  | cons b l ih =>
   intro hl hk
   rw[List.nodup_cons] at hl
   obtain⟨m,m1,m2,m3,m4⟩:=ih hl.2 fun b hb=>hk b (List.mem_cons_of_mem _ hb)
   obtain⟨u,u1,u2,u3⟩:=hx b (hk b (List.mem_cons_self ..))
   refine⟨u.id::m,by rw[List.length_cons,List.length_cons,m1],List.nodup_cons.2 ⟨fun hm=>?_,m2⟩,fun i hi=>?_,fun i hi=>?_⟩
   · obtain⟨v,v1,v2,v3,v4⟩:=m4 _ hm
     have:=h.one u u1 v v1 u3 v3 v4.symm
     rw[this] at u2
     exact hl.1 (u2▸v2)
   · rcases List.mem_cons.1 hi with rfl|hi
     · exact List.mem_map.2 ⟨_,h.sub u u1 u3,rfl⟩
     · exact m3 i hi
   · rcases List.mem_cons.1 hi with rfl|hi
     · exact⟨u,u1,u2▸List.mem_cons_self ..,u3,rfl⟩
     · obtain⟨v,v1,v2,v3,v4⟩:=m4 i hi
       exact⟨v,v1,List.mem_cons_of_mem _ v2,v3,v4⟩
 obtain⟨m,m1,m2,m3, -⟩:=key t.kids hnd fun b hb=>hb
 have:=Hg m2 m3
 rw[List.length_map,m1] at this
 exact this
def withCount (t:Tok)(c:Int):Tok:={t with count:=c}
def setCount (S:NC)(H0:List Tok)(t:Tok)(c:Int):NC:={S with H:=withCount t c::H0}
theorem EX(hp:S.H.Perm (t::H0)){c:Int}:∀w∈(setCount S H0 t c).H,∃w0∈S.H,w.anc=w0.anc∧w.id=w0.id∧w.env=w0.env∧w.km=w0.km∧w.kids=w0.kids∧(w=w0∨w=withCount t c∧w0=t):=fun w hw=>by
 rcases List.mem_cons.1 hw with rfl|hw
 · exact⟨t,(memH hp).2 (.inl rfl),rfl,rfl,rfl,rfl,rfl,.inr ⟨rfl,rfl⟩⟩
 · exact⟨w,(memH hp).2 (.inr hw),rfl,rfl,rfl,rfl,rfl,.inl rfl⟩
theorem EW(hp:S.H.Perm (t::H0)){c:Int}:∀w∈S.H,∃w'∈(setCount S H0 t c).H,w'.anc=w.anc∧w'.b=w.b∧w'.id=w.id∧w'.env=w.env∧(w'=w∨w=t):=fun w hw=>by
 rcases(memH hp).1 hw with rfl|hw
 · exact⟨_,List.mem_cons_self ..,rfl,rfl,rfl,rfl,.inr rfl⟩
 · exact⟨w,List.mem_cons_of_mem _ hw,rfl,rfl,rfl,rfl,.inl rfl⟩
theorem b_of{u v:Tok}(h:u.anc=v.anc):u.b=v.b:=by unfold Tok.b;rw[h]
theorem Str.setCount(h:Str S E)(hp:S.H.Perm (t::H0)){c:Int}(hc:0≤c∧c≤1000):Str (Nt.setCount S H0 t c) E:=by
 have hn:=EX (c:=c) hp
 have ho:=EW (c:=c) hp
 constructor
 · intro u hu
   obtain⟨w,h1,h2, -⟩:=hn u hu
   rw[h2];exact h.ne w h1
 · exact(hp.map Tok.b).nodup_iff.1 h.nd
 · intro u hu hne
   obtain⟨w,h1,h2, -⟩:=hn u hu
   rw[h2] at hne ⊢
   obtain⟨p,k1,k2⟩:=h.up w h1 hne
   obtain⟨p',q1,q2, -⟩:=ho p k1
   exact⟨p',q1,k2.trans q2.symm⟩
 · intro u hu v hv e e'
   obtain⟨w,h1,h2, -⟩:=hn u hu
   obtain⟨z,k1,k2, -⟩:=hn v hv
   rw[b_of h2,b_of k2]
   exact h.rt w h1 z k1 (by rw[←h2];exact e) (by rw[←k2];exact e')
 · intro u hu
   obtain⟨w,h1, -, -, -, -,h2, -⟩:=hn u hu
   rw[h2];exact h.kn w h1
 · intro u hu b
   obtain⟨w,h1,ha, -, -, -,h2, -⟩:=hn u hu
   rw[h2,h.km w h1 b,ha]
   constructor
   · rintro⟨z,k1,k2,k3⟩
     obtain⟨z',q1,q2,q3, -⟩:=ho z k1
     exact⟨z',q1,q3.trans k2,by rw[q2];exact k3⟩
   · rintro⟨z,k1,k2,k3⟩
     obtain⟨z',q1,q2, -⟩:=hn z k1
     exact⟨z',q1,(b_of q2).symm.trans k2,by rw[←q2];exact k3⟩
 · intro u hu
   obtain⟨w,h1, -, -, -, -,h2, -⟩:=hn u hu
   rw[h2];exact h.kl w h1
 · intro u hu
   obtain⟨w,h1,h2, -⟩:=hn u hu
   rw[h2];exact h.lv w h1
 · exact h.tn
 · intro k x hx b
   rw[h.tm k x hx b]
   constructor
   · rintro⟨z,k1,k2,k3,k4⟩
     obtain⟨z',q1,q2,q3, -⟩:=ho z k1
     exact⟨z',q1,q3.trans k2,by rw[q2];exact k3,k4⟩
   · rintro⟨z,k1,k2,k3,k4⟩
     obtain⟨z',q1,q2, -⟩:=hn z k1
     exact⟨z',q1,(b_of q2).symm.trans k2,by rw[←q2];exact k3,k4⟩
 · intro u hu
   obtain⟨w,h1, -, -, -,h3,h2, -⟩:=hn u hu
   rw[h2,h3];exact h.okt w h1
 · exact h.okx
 · exact h.row
 · exact h.nl
 · intro u hu
   obtain⟨w,h1, -, -,h2, -⟩:=hn u hu
   rw[h2];exact h.ek w h1
 · exact h.pk
 · intro u hu
   rcases List.mem_cons.1 hu with rfl|hu
   · exact hc
   · exact h.ct u ((memH hp).2 (.inr hu))
 · obtain⟨r,h1,h2⟩:=h.rx
   rcases(memH hp).1 h1 with rfl|h1
   · exact⟨_,List.mem_cons_self ..,h2⟩
   · exact⟨r,List.mem_cons_of_mem _ h1,h2⟩
end Nt
end
section
attribute [local push_cast] Ad Ae Ao V.cells_mk V.cells_len Nat.mul_one Int.sub_zero List.map_nil beq_self_eq_true bne_self_eq_false List.head?_cons Bool.not_true Bool.not_false Nat.zero_add Fl Fm
attribute [-instance] Aq Av Am AV
namespace Nt
variable {S S':NC} {E X:List Nat} {t u v:Tok} {H0:List Tok}
theorem Re(h:Str S E):∀k,(S.H.filter fun u=>decide (u.anc.length=k+1)).length≤1000 ^ k
|0=>by
  have hnd:((S.H.filter fun u=>decide (u.anc.length=0+1)).map Tok.b).Nodup:=h.nd.sublist ((List.filter_sublist ..).map _)
  cases hl:S.H.filter fun u=>decide (u.anc.length=0+1) with
  | nil=>exact Nat.zero_le _
  | cons a l =>
   cases l with
   | nil=>exact Nat.le_refl _
   | cons c l =>
    rw[hl] at hnd
    have ha:a∈S.H.filter fun u=>decide (u.anc.length=0+1):=by rw[hl];exact List.mem_cons_self ..
    have hc:c∈S.H.filter fun u=>decide (u.anc.length=0+1):=by rw[hl];exact List.mem_cons_of_mem _ (List.mem_cons_self ..)
    rw[List.mem_filter] at ha hc
    have e:=h.rt a ha.1 c hc.1 (of_decide_eq_true ha.2) (of_decide_eq_true hc.2)
    rw[List.map_cons,List.map_cons,List.nodup_cons] at hnd
    exact absurd (by rw[e];exact List.mem_cons_self ..) hnd.1
|k+1=>by
  have ih:=Re h k
  have hnd:((S.H.filter fun u=>decide (u.anc.length=k+1+1)).map Tok.b).Nodup:=h.nd.sublist ((List.filter_sublist ..).map _)
  have hsub:∀b∈(S.H.filter fun u=>decide (u.anc.length=k+1+1)).map Tok.b,b∈(S.H.filter fun u=>decide (u.anc.length=k+1)).flatMap Tok.kids:=fun b hb=>by
   obtain⟨u,hu,rfl⟩:=List.mem_map.1 hb
   obtain⟨hu,hl⟩:=List.mem_filter.1 hu
   have hl:=of_decide_eq_true hl
   have htl:u.anc.tail.length=k+1:=by rw[List.length_tail];omega
   obtain⟨p,hp,e⟩:=h.up u hu (fun e=>by rw[e] at htl;cases htl)
   refine List.mem_flatMap.2 ⟨p,List.mem_filter.2 ⟨hp,decide_eq_true (by rw[←e];exact htl)⟩,?_⟩
   exact(h.km p hp u.b).2 ⟨u,hu,rfl,e⟩
  have h1:=Hg hnd hsub
  rw[List.length_map,List.length_flatMap] at h1
  have h2:∀l:List Tok,(∀u∈l,u.kids.length≤1000)→(l.map fun u=>u.kids.length).sum≤l.length*1000:=fun l=>by
   induction l with
   | nil=>exact fun _=>Nat.le_refl _
   | cons a l ih =>
    intro hl
    rw[List.map_cons,List.sum_cons,List.length_cons,Nat.succ_mul]
    have:=hl a (List.mem_cons_self ..)
    have:=ih fun u hu=>hl u (List.mem_cons_of_mem _ hu)
    omega
  have h3:=h2 (S.H.filter fun u=>decide (u.anc.length=k+1)) fun u hu=>h.kl u (List.mem_filter.1 hu).1
  rw[Nat.pow_succ]
  have h4:=Nat.mul_le_mul_right 1000 ih
  omega
theorem ts_len(h:Str S E){k:Nat}{x:Nd}(hx:S.ns[k]?=some x):x.ts.length≤10000000000000:=by
 have h1:∀b∈x.ts,b∈(S.H.filter fun u=>decide (u.anc.length=k+1)).map Tok.b:=fun b hb=>by
  obtain⟨u,hu,e,e2, -⟩:=(h.tm k x hx b).1 hb
  exact List.mem_map.2 ⟨u,List.mem_filter.2 ⟨hu,decide_eq_true e2⟩,e⟩
 have h2:=Hg (h.tn k x hx) h1
 rw[List.length_map] at h2
 have h3:=Re h k
 have hk:k≤4:=by
  have:=(List.getElem?_eq_some_iff.1 hx).1
  have:=h.nl
  omega
 have h4:1000 ^ k≤1000 ^ 4:=Nat.pow_le_pow_right (by decide) hk
 have h5:(1000:Nat) ^ 4=1000000000000:=by decide
 omega
end Nt
def NC.rest (S:NC)(H0:List Tok)(t:Tok)(st:St):St:=t.km.resT t.kids++((S.ns.flatMap Nd.res++H0.flatMap Tok.res)++st)
theorem NC.view{S:NC}{t:Tok}{H0:List Tok}(hp:S.H.Perm (t::H0))(st:St):(S.st++st).Perm (S.cbox::S.gbox::.box t.b 119 t.cells::S.rest H0 t st):=by
 have h1:(S.st++st).Perm ((.box t.b 119 t.cells::(t.km.resT t.kids++({S with H:=H0}:NC).st))++st):=(NC.at_tok hp).append_right st
 refine h1.trans ?_
 unfold NC.rest NC.st
 generalize t.km.resT t.kids=KR
 generalize Res.box t.b 119 t.cells=TB
 generalize S.ns.flatMap Nd.res=P1
 generalize H0.flatMap Tok.res=P2
 show((TB::(KR++(S.cbox::S.gbox::(P1++P2))))++st).Perm _
 generalize S.cbox=CB
 generalize S.gbox=GB
 have h2:(TB::(KR++(CB::GB::(P1++P2)))++st).Perm (TB::(CB::GB::(KR++(P1++P2)))++st):=by
  refine List.Perm.append_right st (List.Perm.cons TB ?_)
  exact List.perm_middle.trans (.cons CB List.perm_middle)
 refine h2.trans ?_
 simp only[List.cons_append,List.append_assoc]
 exact(List.Perm.swap _ _ _).trans (.cons _ (.swap _ _ _))
theorem NU{S:NC}{k:Nat}{u:Tok}(hu:u∈S.H)(A B st:St)(n:Res):WK (n::(A++(S.off k++st))) u.b :=
 ⟨_,_,List.mem_cons_of_mem _ (List.mem_append_right _ (List.mem_append_left _ (List.mem_cons_of_mem _ (List.mem_append_right _ (List.mem_append_right _ (List.mem_flatMap.2 ⟨u,hu,List.mem_cons_self ..⟩))))))⟩
theorem TM(S:NC)(t:Tok)(k:Nat)(x:Nd)(hS:Nt.Str S [t.b])(ht:t∈S.H)(hk:t.anc.length=k+1)(hx:S.ns[k]?=some x)(n:Res)(st:St):TrF Tryz.prog 96 [.ptr S.g (k*9+6),.ptr t.b 0,.ptr t.b 0] (n::(S.st++st)) fun d st'=>∃M':MemP,M'.okT (x.ts++[t.b])∧d=.tup []∧(n::((Nt.putT S k x t.b M').st++st)).Perm st':=by
 have h1:(n::(S.st++st)).Perm (.box S.g 115 (Fe S.ns k x++(x.tm.cells x.ts.length++CO S.ns k S.zs))::(x.tm.resT x.ts++(n::(x.fm.resF x.fs++(S.off k++st))))):=by
  refine(((NC.at_T hx).append_right st).cons n).trans ?_
  simp only[List.cons_append,List.append_assoc]
  exact BH _ _ _ _
 have hno:t.b∉x.ts:=fun hb=>by
  obtain⟨w,hw,e1, -,e3⟩:=(hS.tm k x hx t.b).1 hb
  exact e3 (List.mem_singleton.2 rfl)
 have h2:=Qz S.g 115 (Fe S.ns k x) (CO S.ns k S.zs) x.tm x.ts t.b (hS.okx x (List.mem_of_getElem? hx)).2 hno (Nt.ts_len hS hx) (n::(x.fm.resF x.fs++(S.off k++st))) (fun b hb=>.inr (by
  rcases List.mem_cons.1 hb with rfl|hb
  · exact NU ht _ [] _ _
  · obtain⟨w,hw,e1, -⟩:=(hS.tm k x hx b).1 hb
    rw[←e1]
    exact NU hw _ [] _ _))
 rw[FF hx] at h2
 refine(TrF.perm h1 h2).mono fun d st' ⟨M',h3,h4,h5⟩=>⟨M',h3,h4,List.Perm.trans ?_ h5⟩
 have hx2:(Nt.putT S k x t.b M').ns[k]?=some {x with ts:=x.ts++[t.b],tm:=M'}:=List.getElem?_set_self (List.getElem?_eq_some_iff.1 hx).1
 have h6:=((NC.at_T hx2).append_right st).cons n
 refine h6.trans ?_
 simp only[List.cons_append,List.append_assoc]
 refine(BH _ _ _ _).trans ?_
 have e1:Fe (Nt.putT S k x t.b M').ns k {x with ts:=x.ts++[t.b],tm:=M'}=Fe S.ns k x:=by
  unfold Fe
  show Az ((S.ns.set k _).take k)++_=_
  rw[Bv]
 have e2:CO (Nt.putT S k x t.b M').ns k (Nt.putT S k x t.b M').zs=CO S.ns k S.zs:=by
  unfold CO
  show Az ((S.ns.set k _).drop (k+1))++_=_
  rw[BB]
  rfl
 have e3:(Nt.putT S k x t.b M').off k=S.off k:=by
  unfold NC.off NC.cbox
  show Res.box S.c _ [.ar S.g 0 (S.ns.set k _).length S.cap]::(((S.ns.set k _).take k).flatMap Nd.res++(((S.ns.set k _).drop (k+1)).flatMap Nd.res++S.H.flatMap Tok.res))=_
  rw[Bv,BB,List.length_set]
 rw[e1,e2,e3]
 show List.Perm (Res.box S.g _ (Fe S.ns k x++(M'.cells (x.ts++[t.b]).length++CO S.ns k S.zs))::_) _
 rw[List.length_append,List.length_singleton]
end
section
attribute [local push_cast] Ad Ae Ao V.cells_mk V.cells_len Nat.mul_one Int.sub_zero List.map_nil beq_self_eq_true bne_self_eq_false List.head?_cons Bool.not_true Bool.not_false Nat.zero_add
section
variable {P:Program} {r:Option Nat} {A:AA} {st:St} {m:Option Ro} {k:D→St→Prop} {dst:Option Tmp} {ty:TypeId} {pos:String} {aft:Array Edge} {gd:Option (Nat×Bool)} {w:World}
def ZJ (P:Program)(t:TypeId):Option (TypeId×Nat×Nat×List Value):=(Ag P t).bind fun ti=>match ti.k with
|.slice el sz bytes z=>if z.all zOk=true then some (el,sz,bytes,z) else none
|_=>none
theorem Sw{t el:TypeId}{sz bytes:Nat}{z:List Value}(h:ZJ P t=some (el,sz,bytes,z)):P.underlying t=some (.slice el)∧∃i zv,P.info? el=some i∧i.zero=some zv∧zv.cells.size=i.size∧0<i.size∧i.size=sz∧i.bytes=bytes∧zv.cells.toList=z∧∀v∈zv.cells.toList,zOk v=true:=by
 unfold ZJ at h
 cases ht:Ag P t with
|none=>rw[ht] at h;cases h
|some ti =>
  rw[ht,Option.bind_some] at h
  split at h
  · rename_i el' sz' bytes' z hk
    split at h
    · rename_i hz
      cases h
      obtain⟨hu,ii,zv,q1,q2,q3,q4,q5,q6,q7⟩:=(Ap ht).2.2.2.2.1 _ _ _ _ hk
      subst q4
      exact⟨hu,ii,zv,q1,q2,q7,q6,rfl,q5,q3,by rw[q3];exact List.all_eq_true.1 hz⟩
    · cases h
  · cases h
def MkN (m:Option Ro)(q:TypeId×Nat×Nat×List Value)(p:D×D)(st:St)(k:D→St→Prop):Prop :=
 ∃(kl kc:IntKind) (n:Nat),p=(.s (.int kl n),.s (.int kc n))∧n*q.2.2.1≤140737488355328∧n≤140737488355328∧∀g,AE m (.box g q.1 (((List.replicate n (q.2.2.2.map AN)).flatten).map D.sh)::st)∧k (.ar g 0 n n) (.box g q.1 (((List.replicate n (q.2.2.2.map AN)).flatten).map D.sh)::st)
theorem ZR{el:TypeId}{sz bytes n:Nat}{z:List Value}{kl kc:IntKind}{cs:List D}(h1:n*bytes≤140737488355328)(h2:n≤140737488355328)(hc:((List.replicate n (z.map AN)).flatten).map D.sh=cs)(h:∀g,AE m (.box g el cs::st)∧k (.ar g 0 n n) (.box g el cs::st)):MkN m (el,sz,bytes,z) (.s (.int kl n),.s (.int kc n)) st k:=by
 subst hc
 exact⟨kl,kc,n,rfl,h1,h2,h⟩
theorem Xr{t:TypeId}{x y:Operand}(h:Ev (DP (ev A.e x) (ev A.e y)) fun p=>Ev (ZJ P t) fun q=>MkN m q p st k):S P r m ⟨dst,.makeSlice t x y,ty,pos,aft,gd⟩ A st k:=by
 obtain⟨p,h1,⟨el,sz,bytes,z⟩,h2,kl,kc,n,rfl,h3,h4,h5⟩:=h
 unfold DP at h1
 split at h1
 · rename_i d d' hx hy
   cases h1
   dsimp only at h3 h4 h5
   refine Bk (R:=fun d st'=>∃g,d=.ar g 0 n n∧st'=.box g el (((List.replicate n (z.map AN)).flatten).map D.sh)::st) rfl ?_ ⟨_,_,0,rfl,rfl⟩ fun d st' ⟨g,e1,e2⟩=>by subst e1 e2;exact h5 g
   refine AU (by intro c hc;cases hc) fun ρ w hr hh=>.inl ?_
   have hv1:=AX (hr _ (by simp[Op.operands]) _ hx)
   have hv2:=AX (hr _ (by simp[Op.operands]) _ hy)
   obtain⟨q1,i,zv,q2,q3,q4,q5,q6,q7,q9,q8⟩:=Sw h2
   have hby:(i.bytes:Int)*(n:Int)≤281474976710656:=by
    rw[q7,←Int.natCast_mul,Nat.mul_comm];omega
   have hrun:=run_make (P:=P) w t el i zv q1 q2 q3 kl kc n n q_o (Int.le_refl _) hby q_o
   rw[Int.toNat_natCast] at hrun
   have hzs:0<zv.cells.size:=by omega
   have hcl:(madeCells zv.cells (n*i.size)).toList=(List.replicate n zv.cells.toList).flatten:=by
    rw[←q4];exact KZ _ hzs n
   have hna:zv.cells.toList.all CJ=true:=List.all_eq_true.2 fun v hv=>by
    have:=q8 v hv
    unfold zOk at this
    rw[Bool.and_eq_true] at this
    exact this.1
   have hrep:RepL (OwnS st) w (madeCells zv.cells (n*i.size)).toList (((List.replicate n (z.map AN)).flatten).map D.sh):=by
    rw[hcl,←q9];exact(Js hna n).sh
   obtain⟨k1,k2⟩:=Hh hh el hrep (fun d hd=>by
    obtain⟨d',hd',rfl⟩:=List.mem_map.1 hd
    rw[D.leaf_sh]
    obtain⟨l,hl,hdl⟩:=List.mem_flatten.1 hd'
    rw[(List.mem_replicate.1 hl).2] at hdl
    obtain⟨v,hv,rfl⟩:=List.mem_map.1 hdl
    have:=q8 v (by rw[q9];exact hv)
    unfold zOk at this
    rw[Bool.and_eq_true] at this
    exact this.2)
   refine⟨_,_,?_,_,_,.ar w.heap.size 0 n n (Nat.le_refl _) (by unfold maxLen;omega),k1,k2,⟨_,rfl,rfl⟩⟩
   unfold execOp
   simp only[hv1,hv2,Sem.run_bind,hrun,Result.andThen_ok,Sem.run_pure]
 · cases h1
end
theorem TN:Bw Mat.empty=[.i 0,.i 0,.str ⟨#[]⟩,.sl .shared [],.i 0,.i 0,.str ⟨#[]⟩,.sl .shared [],.i 0,.i 0,.str ⟨#[]⟩,.sl .shared [],.i 0,.i 0,.str ⟨#[]⟩,.sl .shared [],.i 0,.i 0,.str ⟨#[]⟩,.sl .shared [],.i 0,.i 0,.str ⟨#[]⟩,.sl .shared [],.i 0,.i 0,.str ⟨#[]⟩,.sl .shared [],.i 0,.i 0,.str ⟨#[]⟩,.sl .shared []]:=by
 unfold Bw Mat.empty V.zero
 simp only[List.replicate,List.map_cons,List.map_nil,V.cells_mk]
 rfl
theorem TP{fn:FuncId}{st:St}(h:TrF Tryz.prog fn [] st fun d st'=>∃g cap zs,d=.ar g 0 8 cap∧st'=.box g 30 (Bw Mat.empty++zs)::st):TrF Tryz.prog fn [] st fun d st'=>d=.sl .shared (Mat.empty.map V.cells)∧st'=st :=
 h.freeze (sz:=4) (by decide) (Gb _) rfl
theorem Lk(st:St):TrF Tryz.prog 20 [] st fun d st'=>d=.sl .shared (Mat.empty.map V.cells)∧st'=st:=by
 refine TP ?_
 refine Qin [0] Tryz.func20 Tryz.results20 Tryz.ntmps20 ?_
 repeat' (first|refine QV ?_|with_reducible refine Xr ?_|((apply(ZR (n:=8) (cs:=Bw Mat.empty)));(focus exact Nat.le_of_ble_eq_true rfl);(focus decide);(focus(rw[TN];rfl));intro g)|refine QY ?_|(refine QB ?_;intro b)|(with_reducible refine QZ ?_<;>(try constructor)<;>intro hb<;>try intro hb1)|fail)
 all_goals exact Ab (by simp) q_y (List.Sublist.refl _) (LE.of_eq q_v) ⟨g,8,[],rfl,by rw[List.append_nil]⟩
theorem empty_ek:EK Mat.empty:=⟨fun v hv=>by
 rw[(List.mem_replicate.1 hv).2]
 unfold V.zero
 exact .mk (Nat.zero_le _) (Nat.zero_le _) (fun x hx=>by cases hx),by unfold Mat.empty;rw[List.length_replicate];decide⟩
end
section
attribute [local push_cast] Ad Ae Ao V.cells_mk V.cells_len Nat.mul_one Int.sub_zero List.map_nil beq_self_eq_true bne_self_eq_false List.head?_cons Bool.not_true Bool.not_false Nat.zero_add
structure XK (x:Rl):Prop where
 p:∀p∈x.pats,PK p
 l:x.pats.length≤1000
section
set_option maxHeartbeats 16000000
def fG (r:List V×Bool):D:=.tup [.sl .shared (r.1.map V.cells),.b r.2]
namespace Mat
theorem passL_take{p:Pt}{F:List Fc}{e:List V}{k:Nat}{f:Fc}(h:F[k]?=some f):passL p (F.take (k+1)) e=passL p (F.take k) e++(match pass p f e with|some e'=>[(f.id,e')]|none=>[]):=by
 unfold passL
 rw[List.take_add_one,h,Option.toList_some,List.filterMap_append]
 congr 1
 cases hq:pass p f e with
|none=>rw[List.filterMap_cons_none (by rw[hq];rfl)];rfl
|some e'=>rw[List.filterMap_cons_some (by rw[hq];rfl)];rfl
theorem passL_some{p:Pt}{F:List Fc}{e e':List V}{k:Nat}{f:Fc}(h:F[k]?=some f)(hp:pass p f e=some e'):passL p F e≠[]:=fun h0=>by
 unfold passL at h0
 have:=List.filterMap_eq_nil_iff.1 h0 f (List.mem_of_getElem? h)
 rw[hp] at this
 cases this
end Mat
end
end
section
attribute [local push_cast] Ad Ae Ao Nat.mul_one Int.sub_zero List.map_nil beq_self_eq_true bne_self_eq_false List.head?_cons Bool.not_true Bool.not_false Nat.zero_add
namespace Mat
theorem cmpI_drop{a b:List Int}{i:Nat}{x y:Int}(h1:a[i]?=some x)(h2:b[i]?=some y):cmpI (a.drop i) (b.drop i)=if V.sgn x y≠0 then V.sgn x y else cmpI (a.drop (i+1)) (b.drop (i+1)):=by
 rw[V.drop_cons h1,V.drop_cons h2,cmpI]
theorem cmpI_right{a b:List Int}{i:Nat}{x:Int}(h1:a[i]?=some x)(h2:b.length≤i):cmpI (a.drop i) (b.drop i)=1:=by
 rw[V.drop_cons h1,List.drop_of_length_le h2];rfl
theorem cmpI_left{a b:List Int}{i:Nat}{y:Int}(h1:a.length≤i)(h2:b[i]?=some y):cmpI (a.drop i) (b.drop i) = -1:=by
 rw[List.drop_of_length_le h1,V.drop_cons h2];rfl
theorem cmpI_both{a b:List Int}{i:Nat}(h1:a.length≤i)(h2:b.length≤i):cmpI (a.drop i) (b.drop i)=0:=by
 rw[List.drop_of_length_le h1,List.drop_of_length_le h2];rfl
theorem ord_ors(a b:Mt):ord a b=V.ors [V.sgn a.rule b.rule,cmpI a.ids b.ids]:=by
 unfold ord
 by_cases h:V.sgn a.rule b.rule=0
 · rw[if_neg (by simpa using h),h,V.ors_zero,V.ors_one]
 · rw[if_pos h,V.ors_cons h]
end Mat
theorem OY(o o':Own)(a b:List Int)(ha:a.length≤1000000)(hb0:b.length≤1000000)(st:St):TrF Tryz.prog 95 [.sl o (a.map Ae),.sl o' (b.map Ae)] st fun d st'=>d=.i (Mat.cmpI a b)∧st'=st:=by
 have hma:(a.map Ae).length=a.length:=List.length_map ..
 have hmb:(b.map Ae).length=b.length:=List.length_map ..
 have hca:Hid (∀(i:Nat) (v:Int),a[i]?=some v→(a.map Ae)[i]?=some [.i v]):=fun i v h=>by rw[List.getElem?_map,h];rfl
 have hcb:Hid (∀(i:Nat) (v:Int),b[i]?=some v→(b.map Ae)[i]?=some [.i v]):=fun i v h=>by rw[List.getElem?_map,h];rfl
 obtain⟨R,hR⟩:∃R,Mat.cmpI a b=R:=⟨_,rfl⟩
 have HR:Hid (Mat.cmpI (a.drop 0) (b.drop 0)=R):=hR
 rw[hR]
 clear hR
 generalize a.map Ae=AC at *
 generalize b.map Ae=BC at *
 refine Qin [4] Tryz.func95 Tryz.results95 Tryz.ntmps95 ?_
 repeat' (first|refine QX ?_|(refine QB ?_;intro b)|(refine QP ?_;intro o' ho')|(with_reducible refine QZ ?_<;>(try constructor)<;>intro hb<;>try intro hb1)|fail)
 refine Bq (ι:=Nat) (fun i A st'=>i≤a.length∧i≤b.length∧Hid (Mat.cmpI (a.drop i) (b.drop i)=R)∧A.df=[]∧A.e 0=.sl o AC∧A.e 1=.sl o' BC∧A.e 9=.sl o AC∧A.e 10=.i a.length∧A.e 11=.i i∧st=st') (fun i=>a.length - i) 0 ⟨Nat.zero_le _,Nat.zero_le _,HR,Qf,Qf,Qf,Qf,Qf,Qf,rfl⟩ ?_
 clear HR
 rintro i A st' ⟨hi,hi2,HT,hdf,e0,e1,e9,e10,e11,rfl⟩
 by_cases hlt:i<a.length
 · obtain⟨x,hx⟩:=gEx hlt
   have hcx:=hca.out i x hx
   by_cases hlt2:i<b.length
   · obtain⟨y,hy⟩:=gEx hlt2
     have hcy:=hcb.out i y hy
     have hC:=LO x y
     have HE:=HT.out
     rw[Mat.cmpI_drop hx hy] at HE
     generalize V.sgn x y=c at *
     replace hC:=Lib.hid hC
     clear HT hca hcb hx hy
     by_cases h0:c=0
     · rw[if_neg (by simpa using h0)] at HE
       replace HE:=Lib.hid HE
       repeat' (first|refine QX ?_|(refine QB ?_;intro b)|(refine QP ?_;intro o' ho')|(with_reducible refine QZ ?_<;>(try constructor)<;>intro hb<;>try intro hb1)|fail)
       refine⟨i+1,⟨hlt,hlt2,HE,?_,?_,?_,?_,?_,?_,rfl⟩,?_⟩
       all_goals exact Qf
     · rw[if_pos h0] at HE
       subst HE
       exact WRa
   · have HE:=HT.out
     rw[Mat.cmpI_right hx q_o] at HE
     subst HE
     clear HT hca hcb hx
     exact WRa
 · by_cases hlt2:i<b.length
   · obtain⟨y,hy⟩:=gEx hlt2
     have HE:=HT.out
     rw[Mat.cmpI_left q_o hy] at HE
     subst HE
     clear HT hca hcb hy
     exact WRa
   · have HE:=HT.out
     rw[Mat.cmpI_both q_o q_o] at HE
     subst HE
     clear HT hca hcb
     exact WRa
namespace Mat
theorem less_rule{a b:Mt}(h:a.rule≠b.rule):less a b=decide (a.rule<b.rule):=by
 unfold less ord
 rw[if_pos (fun h2=>h (V.sgn_zero.1 h2))]
 exact decide_eq_decide.2 sgn_neg
theorem less_ids{a b:Mt}(h:a.rule=b.rule):less a b=decide (cmpI a.ids b.ids<0):=by
 unfold less ord
 rw[h,V.sgn_self,if_neg (by simp)]
theorem sgn_lt0{x y:Int}:decide (V.sgn x y<0)=decide (x<y):=decide_eq_decide.2 sgn_neg
end Mat
theorem Ph(a b:Mt)(ha:a.ids.length≤1000000)(hb0:b.ids.length≤1000000)(st:St):TrF Tryz.prog 26 [.agg a.cells,.agg b.cells] st fun d st'=>d=.b (Mat.less a b)∧st'=st:=by
 cases a with
|mk r1 a =>
 cases b with
|mk r2 b =>
 dsimp only at *
 have hma:(a.map Ae).length=a.length:=List.length_map ..
 have hmb:(b.map Ae).length=b.length:=List.length_map ..
 have hca:Hid (∀(i:Nat) (v:Int),a[i]?=some v→(a.map Ae)[i]?=some [.i v]):=fun i v h=>by rw[List.getElem?_map,h];rfl
 have hcb:Hid (∀(i:Nat) (v:Int),b[i]?=some v→(b.map Ae)[i]?=some [.i v]):=fun i v h=>by rw[List.getElem?_map,h];rfl
 unfold Mt.cells
 dsimp only
 by_cases hr:r1=r2
 · rw[Mat.less_ids hr]
   dsimp only
   obtain⟨R,hR⟩:∃R,decide (Mat.cmpI a b<0)=R:=⟨_,rfl⟩
   have HR:Hid (decide (Mat.cmpI (a.drop 0) (b.drop 0)<0)=R):=hR
   rw[hR]
   clear hR
   generalize a.map Ae=AC at *
   generalize b.map Ae=BC at *
   refine Qin [4] Tryz.func26 Tryz.results26 Tryz.ntmps26 ?_
   repeat' (first|refine QX ?_|(refine QB ?_;intro b)|(with_reducible refine QZ ?_<;>(try constructor)<;>intro hb<;>try intro hb1)|fail)
   refine Bq (ι:=Nat) (fun i A st'=>i≤a.length∧i≤b.length∧Hid (decide (Mat.cmpI (a.drop i) (b.drop i)<0)=R)∧A.df=[]∧A.e 2=.ip [.i r1,.sl .shared AC]∧A.e 3=.ip [.i r2,.sl .shared BC]∧A.e 5=.i i∧st=st') (fun i=>a.length - i) 0 ⟨Nat.zero_le _,Nat.zero_le _,HR,Qf,Qf,Qf,Qf,rfl⟩ ?_
   clear HR
   rintro i A st' ⟨hi,hi2,HT,hdf,e2,e3,e5,rfl⟩
   by_cases hlt:i<a.length
   · obtain⟨x,hx⟩:=gEx hlt
     have hcx:=hca.out i x hx
     by_cases hlt2:i<b.length
     · obtain⟨y,hy⟩:=gEx hlt2
       have hcy:=hcb.out i y hy
       have HE:=HT.out
       rw[Mat.cmpI_drop hx hy] at HE
       clear HT hca hcb hx hy
       by_cases h0:x=y
       · rw[if_neg (by simpa using V.sgn_zero.2 h0)] at HE
         replace HE:=Lib.hid HE
         repeat' (first|refine QV ?_|((with_reducible refine QW ?_);intro hne;simp only[nes,ne1,and_assoc] at hne;repeat(have hq:=hne.1;replace hne:=hne.2))|refine QY ?_|(refine QB ?_;intro b)|(with_reducible refine QZ ?_<;>(try constructor)<;>intro hb<;>try intro hb1)|fail)
         refine⟨i+1,⟨hlt,hlt2,HE,?_,?_,?_,?_,rfl⟩,?_⟩
         all_goals exact Qf
       · rw[if_pos (fun h=>h0 (V.sgn_zero.1 h)),Mat.sgn_lt0] at HE
         subst HE
         repeat' (first|refine QV ?_|((with_reducible refine QW ?_);intro hne;simp only[nes,ne1,and_assoc] at hne;repeat(have hq:=hne.1;replace hne:=hne.2))|refine QY ?_|(refine QB ?_;intro b)|(with_reducible refine QZ ?_<;>(try constructor)<;>intro hb<;>try intro hb1)|fail)
         all_goals exact Ar
     · have HE:=HT.out
       rw[Mat.cmpI_right hx q_o,show decide ((1:Int)<0)=decide ((a.length:Int)<b.length) from decide_eq_decide.2 q_o] at HE
       subst HE
       clear HT hca hcb hx
       exact WR
   · have HE:=HT.out
     have hv:decide (Mat.cmpI (a.drop i) (b.drop i)<0)=decide ((a.length:Int)<b.length):=by
      by_cases hlt2:i<b.length
      · obtain⟨y,hy⟩:=gEx hlt2
        rw[Mat.cmpI_left q_o hy]
        exact decide_eq_decide.2 q_o
      · rw[Mat.cmpI_both q_o q_o]
        exact decide_eq_decide.2 q_o
     rw[hv] at HE
     subst HE
     clear HT hca hcb hv
     exact WR
 · rw[Mat.less_rule hr]
   dsimp only
   generalize a.map Ae=AC at *
   generalize b.map Ae=BC at *
   clear hca hcb
   refine Qin [4] Tryz.func26 Tryz.results26 Tryz.ntmps26 ?_
   exact WR
end
section
attribute [local push_cast] Ad Ae V.cells_mk V.cells_take V.cells_len Nat.mul_one Int.sub_zero
theorem SH(v:V)(hok:v.Ok)(hn:v.nodes≤1000)(hd:v.deep≤1000)(st:St):TrF Tryz.prog 125 [.agg v.cells] st fun x st'=>x=.i v.nodes∧st'=st:=by
 have hC:=Ic v.nodes v (Nat.le_refl _) hok 1001 1000 q_o q_o q_o q_o
 rw[V.cnt_all v 1001 1000 q_o q_o] at hC
 cases v with
|mk k n s l =>
 rw[V.cells_mk] at *
 replace hC:=Lib.hid hC
 generalize (V.mk k n s l).nodes=q at *
 refine Qin [2] Tryz.func125 Tryz.results125 Tryz.ntmps125 ?_
 repeat' (first|refine QX ?_|(refine QB ?_;intro b)|(with_reducible refine QZ ?_<;>(try constructor)<;>intro hb<;>try intro hb1)|fail)
 all_goals(refine Ar (hd:=?_);(try simp(disch:=omega) only[push_cast,simprocAttr, *]);try(first|exact q_e|refine LE.of_eq ?_))
 exact congrArg D.i q_o
theorem SG(v:V)(hok:v.Ok)(hn:v.nodes≤1000)(hd:v.deep≤1000)(st:St):TrF Tryz.prog 83 [.agg v.cells] st fun x st'=>x=.b v.right∧st'=st:=by
 have hE:=NG v.nodes v (Nat.le_refl _)
 have hD:=Ju v.nodes v (Nat.le_refl _) q_o
 have hN:=SH v hok hn hd
 unfold V.right
 cases v with
|mk k n s l =>
 rw[V.cells_mk] at *
 replace hE:=Lib.hid hE
 replace hD:=Lib.hid hD
 replace hN:=Lib.hid hN
 generalize (V.mk k n s l).nodes=nn at *
 generalize (V.mk k n s l).deep=dd at *
 generalize (V.mk k n s l).parts=p at *
 refine Qin [2] Tryz.func83 Tryz.results83 Tryz.ntmps83 ?_
 repeat' (first|refine QX ?_|(refine QB ?_;intro b)|(with_reducible refine QZ ?_<;>(try constructor)<;>intro hb<;>try intro hb1)|fail)
 all_goals(refine Ar (hd:=?_);(try simp(disch:=omega) only[push_cast,simprocAttr, *]);try(first|exact q_e|refine LE.of_eq ?_))
 all_goals(cases p<;>(first|rfl|(refine congrArg D.b ?_;rw[Bool.eq_iff_iff];simp only[Bool.true_and,Bool.false_and,Bool.and_true,Bool.and_false,Bool.or_false,Bool.or_true,Bool.true_or,Bool.false_or,true_and,and_true,Bool.not_eq_true',Bool.not_eq_false',decide_eq_true_eq,decide_eq_false_iff_not,beq_iff_eq,beq_eq_false_iff_ne,bne_iff_ne,ne_eq,reduceCtorEq,iff_true,true_iff,iff_false,false_iff,Bool.and_eq_true,Bool.or_eq_true,Bool.false_eq_true,Bool.true_eq_false];first|done|omega)))
end
section
attribute [local push_cast] Ad Ae Ao V.cells_mk V.cells_len Nat.mul_one Int.sub_zero List.map_nil beq_self_eq_true bne_self_eq_false List.head?_cons Bool.not_true Bool.not_false Nat.zero_add
section
set_option maxHeartbeats 16000000
namespace Mat
theorem same_drop{a b:List Mt}{i:Nat}{x y:Mt}(h1:a[i]?=some x)(h2:b[i]?=some y):same (a.drop i) (b.drop i)=((!less x y && !less y x) && same (a.drop (i+1)) (b.drop (i+1))):=by
 rw[V.drop_cons h1,V.drop_cons h2,same]
theorem same_len:∀{a b:List Mt},a.length≠b.length→same a b=false
|[],[],h=>absurd rfl h
|[],_::_,_=>rfl
|_::_,[],_=>rfl
|a::l,b::m,h=>by
  rw[same,same_len (a:=l) (b:=m) (fun e=>h (by rw[List.length_cons,List.length_cons,e])),Bool.and_false]
end Mat
theorem Pg(a b:List Mt)(ha:∀m∈a,m.ids.length≤1000000)(hb0:∀m∈b,m.ids.length≤1000000)(hal:a.length≤1000000)(st:St):TrF Tryz.prog 22 [.sl .shared (a.map Mt.cells),.sl .shared (b.map Mt.cells)] st fun d st'=>d=.b (Mat.same a b)∧st'=st:=by
 have hma:(a.map Mt.cells).length=a.length:=List.length_map ..
 have hmb:(b.map Mt.cells).length=b.length:=List.length_map ..
 have hca:=hMp Mt.cells a
 have hcb:=hMp Mt.cells b
 have hL:=Lib.hid fun(x y:Mt) (hx:x.ids.length≤1000000) (hy:y.ids.length≤1000000)=>Ph x y hx hy
 obtain⟨R,hR⟩:∃R,Mat.same a b=R:=⟨_,rfl⟩
 have HR:Hid (Mat.same (a.drop 0) (b.drop 0)=R):=hR
 have ha2:=Lib.hid ha
 have hb2:=Lib.hid hb0
 by_cases hlen:a.length=b.length
 · have hlen2:b.length=a.length:=hlen.symm
   rw[hR]
   clear hR ha hb0
   replace hlen:=Lib.hid hlen
   generalize a.map Mt.cells=AC at *
   generalize b.map Mt.cells=BC at *
   refine Qin [4] Tryz.func22 Tryz.results22 Tryz.ntmps22 ?_
   repeat' (first|refine QX ?_|(refine QB ?_;intro b)|(with_reducible refine QZ ?_<;>(try constructor)<;>intro hb<;>try intro hb1)|fail)
   refine Bq (ι:=Nat) (fun i A st'=>i≤a.length∧Hid (Mat.same (a.drop i) (b.drop i)=R)∧A.df=[]∧A.e 0=.sl .shared AC∧A.e 1=.sl .shared BC∧A.e 5=.i i∧st=st') (fun i=>a.length - i) 0 ⟨Nat.zero_le _,HR,Qf,Qf,Qf,Qf,rfl⟩ ?_
   clear HR
   rintro i A st' ⟨hi,HT,hdf,e0,e1,e5,rfl⟩
   by_cases hlt:i<a.length
   · obtain⟨x,hx⟩:=gEx hlt
     obtain⟨y,hy⟩:=gEx (l:=b) (i:=i) q_o
     have hcx:=hca.out i x hx
     have hcy:=hcb.out i y hy
     have hL1:=hL.out x y (ha2.out x (List.mem_of_getElem? hx)) (hb2.out y (List.mem_of_getElem? hy))
     have hL2:=hL.out y x (hb2.out y (List.mem_of_getElem? hy)) (ha2.out x (List.mem_of_getElem? hx))
     have HE:=HT.out
     rw[Mat.same_drop hx hy] at HE
     clear HT hca hcb hx hy hL ha2 hb2
     unfold Mt.cells at *
     generalize x.ids.map Ae=X1 at *
     generalize y.ids.map Ae=Y1 at *
     generalize Mat.less x y=q1 at *
     generalize Mat.less y x=q2 at *
     generalize x.rule=r1 at *
     generalize y.rule=r2 at *
     replace hL1:=Lib.hid hL1
     replace hL2:=Lib.hid hL2
     cases q1 with
     | true =>
      have HE2:false=R:=HE
      subst HE2
      clear HE
      repeat' (first|refine QV ?_|((with_reducible refine QW ?_);intro hne;simp only[nes,ne1,and_assoc] at hne;repeat(have hq:=hne.1;replace hne:=hne.2))|refine QY ?_|(refine QB ?_;intro b)|(with_reducible refine QZ ?_<;>(try constructor)<;>intro hb<;>try intro hb1)|refine Qc Tryz.call26 ((hL1.out _)) ?_|refine Qc Tryz.call26 ((hL2.out _)) ?_|fail)
      all_goals exact Ar
     | false =>
      cases q2 with
      | true =>
       have HE2:false=R:=HE
       subst HE2
       clear HE
       repeat' (first|refine QV ?_|((with_reducible refine QW ?_);intro hne;simp only[nes,ne1,and_assoc] at hne;repeat(have hq:=hne.1;replace hne:=hne.2))|refine QY ?_|(refine QB ?_;intro b)|(with_reducible refine QZ ?_<;>(try constructor)<;>intro hb<;>try intro hb1)|refine Qc Tryz.call26 ((hL1.out _)) ?_|refine Qc Tryz.call26 ((hL2.out _)) ?_|fail)
       all_goals exact Ar
      | false =>
       have HE2:Hid (Mat.same (a.drop (i+1)) (b.drop (i+1))=R):=HE
       clear HE
       repeat' (first|refine QV ?_|((with_reducible refine QW ?_);intro hne;simp only[nes,ne1,and_assoc] at hne;repeat(have hq:=hne.1;replace hne:=hne.2))|refine QY ?_|(refine QB ?_;intro b)|(with_reducible refine QZ ?_<;>(try constructor)<;>intro hb<;>try intro hb1)|refine Qc Tryz.call26 ((hL1.out _)) ?_|refine Qc Tryz.call26 ((hL2.out _)) ?_|fail)
       refine⟨i+1,⟨hlt,HE2,?_,?_,?_,?_,rfl⟩,?_⟩
       all_goals exact Qf
   · have HE:=HT.out
     rw[List.drop_of_length_le q_o,List.drop_of_length_le q_o] at HE
     have HE2:true=R:=HE
     subst HE2
     clear HT hca hcb hL ha2 hb2 HE
     exact WR
 · rw[Mat.same_len hlen]
   have hl2:¬(a.length:Int)=(b.length:Int):=by omega
   clear hca hcb hL ha2 hb2 HR hR ha hb0
   generalize a.map Mt.cells=AC at *
   generalize b.map Mt.cells=BC at *
   refine Qin [4] Tryz.func22 Tryz.results22 Tryz.ntmps22 ?_
   exact WR
namespace Mat
def headB (S:List Int)(f:Fc):Bool:=decide (1≤f.id) && (decide (0≤f.tmpl) && (decide (f.tmpl<S.length) && decide ((f.s.length:Int)=S.getD f.tmpl.toNat 0)))
def rightL (S:List Int)(F:List Fc):List Fc→Nat→Bool
|[],_=>true
|f::l,i=>headB S f && (f.s.all V.right && (!((F.take i).any fun g=>g.id == f.id) && rightL S F l (i+1)))
def right (S:List Int)(F:List Fc):Bool:=decide (F.length≤7) && rightL S F F 0
theorem rightL_drop{S:List Int}{F:List Fc}{i:Nat}{f:Fc}(h:F[i]?=some f):rightL S F (F.drop i) i=(headB S f && (f.s.all V.right && (!((F.take i).any fun g=>g.id == f.id) && rightL S F (F.drop (i+1)) (i+1)))):=by
 rw[V.drop_cons h,rightL]
theorem headB_iff{S:List Int}{f:Fc}:headB S f=true↔1≤f.id∧0≤f.tmpl∧f.tmpl<S.length∧(f.s.length:Int)=S.getD f.tmpl.toNat 0:=by
 unfold headB
 simp only[Bool.and_eq_true,decide_eq_true_eq]
end Mat
structure FcR (f:Fc):Prop where
 v:∀x∈f.s,x.Ok∧x.nodes≤1000∧x.deep≤1000
 l:f.s.length≤maxLen
theorem Nz(F:List Fc)(S:List Int)(hF:F.length≤7→∀f∈F,FcR f)(hFl:F.length≤maxLen)(hSl:S.length≤1000000)(o:Own)(st:St):TrF Tryz.prog 49 [.sl .shared (F.map Fc.cells),.sl o (S.map Ae)] st fun d st'=>d=.b (Mat.right S F)∧st'=st:=by
 have hFm:(F.map Fc.cells).length=F.length:=List.length_map ..
 have hSm:(S.map Ae).length=S.length:=List.length_map ..
 unfold Mat.right
 by_cases h7:F.length≤7
 · rw[decide_eq_true h7,Bool.true_and]
   have hFc:=hMp Fc.cells F
   have hSc:Hid (∀(i:Nat) (v:Int),S[i]?=some v→(S.map Ae)[i]?=some [.i v]):=fun i v h=>by rw[List.getElem?_map,h];rfl
   have hFR:=Lib.hid (hF h7)
   obtain⟨R,hR⟩:∃R,Mat.rightL S F F 0=R:=⟨_,rfl⟩
   have HR:Hid (Mat.rightL S F (F.drop 0) 0=R):=hR
   rw[hR]
   clear hR hF
   generalize F.map Fc.cells=FS at *
   generalize S.map Ae=SS at *
   refine Qin [4] Tryz.func49 Tryz.results49 Tryz.ntmps49 ?_
   repeat' (first|refine QX ?_|(refine QB ?_;intro b)|(refine QP ?_;intro o' ho')|(with_reducible refine QZ ?_<;>(try constructor)<;>intro hb<;>try intro hb1)|fail)
   refine Aj (ι:=Nat) (fun i A st'=>i≤F.length∧Hid (Mat.rightL S F (F.drop i) i=R)∧A.df=[]∧A.e 0=.sl .shared FS∧A.e 1=.sl o SS∧A.e 5=.i i∧st'=st) (fun i=>F.length - i) 0 ⟨Nat.zero_le _,HR,Qf,Qf,Qf,Qf,rfl⟩ ?_
   clear HR
   rintro i A st' ⟨hi,HT,hdf,e0,e1,e5,rfl⟩
   by_cases hlt:i<F.length
   · obtain⟨f,hf⟩:=gEx hlt
     have hfc:=hFc.out i f hf
     have hfr:=hFR.out f (List.mem_of_getElem? hf)
     have HE:=HT.out
     rw[Mat.rightL_drop hf] at HE
     have hVm:(f.s.map V.cells).length=f.s.length:=List.length_map ..
     have hVc:=hMp V.cells f.s
     have hVr:Hid (∀x∈f.s,∀st,TrF Tryz.prog 83 [.agg x.cells] st fun d st'=>d=.b x.right∧st'=st):=fun x hx st=>SG x (hfr.v x hx).1 (hfr.v x hx).2.1 (hfr.v x hx).2.2 st
     have hfl:=hfr.l
     unfold maxLen at hfl
     rw[show f.cells=[.i f.id,.i f.time,.i f.tmpl,.i f.ver,.sl .shared (f.s.map V.cells)] from rfl] at hfc
     clear HT hFR hfr
     by_cases hh:Mat.headB S f=true
     · rw[hh,Bool.true_and] at HE
       obtain⟨g1,g2,g3,g4⟩:=Mat.headB_iff.1 hh
       obtain⟨t,ht⟩:∃t:Nat,f.tmpl=t:=⟨f.tmpl.toNat,by omega⟩
       rw[ht] at g2 g3 g4 hfc
       rw[Int.toNat_natCast,List.getD_eq_getElem?_getD,List.getElem?_eq_getElem q_o,Option.getD_some] at g4
       have hsc:=hSc.out t _ (List.getElem?_eq_getElem (by omega:t<S.length))
       rw[←g4] at hsc
       clear hh hSc ht g4
       clear hf
       generalize f.s=vs at *
       generalize f.id=f0 at *
       generalize f.time=f1 at *
       generalize f.ver=f3 at *
       have HV:Hid (((vs.drop 0).all V.right && (!((F.take i).any fun g=>g.id == f0) && Mat.rightL S F (F.drop (i+1)) (i+1)))=R):=HE
       clear HE
       generalize hVS:vs.map V.cells=VS at *
       repeat' (first|refine QV ?_|with_reducible refine Co ?_|((with_reducible refine QW ?_);intro hne;simp only[nes,ne1,and_assoc] at hne;repeat(have hq:=hne.1;replace hne:=hne.2))|refine QY ?_|(refine QB ?_;intro b)|(refine QP ?_;intro o' ho')|(with_reducible refine QZ ?_<;>(try constructor)<;>intro hb<;>try intro hb1)|fail)
       refine Bq (ι:=Nat) (fun k A2 st2=>k≤vs.length∧Hid (((vs.drop k).all V.right && (!((F.take i).any fun g=>g.id == f0) && Mat.rightL S F (F.drop (i+1)) (i+1)))=R)∧A2.df=[]∧A2.e 0=.sl .shared FS∧A2.e 1=.sl o SS∧A2.e 5=.i i∧A2.e 6=.ptr b 0∧A2.e 7=.i k∧st2=.box b 43 [.i f0,.i f1,.i t,.i f3,.sl .shared VS]::st') (fun k=>vs.length - k) 0 ⟨Nat.zero_le _,HV,Qf,Qf,Qf,Qf,Qf,Qf,rfl⟩ ?_
       clear HV hdf e0 e1 e5
       rintro k A2 st2 ⟨hk,HK,hdf,e0,e1,e5,e6,e7,rfl⟩
       by_cases hkl:k<vs.length
       · obtain⟨x,hx⟩:=gEx hkl
         have hxc:=hVc.out k x hx
         have hxr:=hVr.out x (List.mem_of_getElem? hx)
         have HE:=HK.out
         rw[V.drop_cons hx,List.all_cons] at HE
         clear HK hVc hVr hFc hx
         cases x with
         | mk k1 n1 s1 l1 =>
         rw[V.cells_mk] at hxc hxr
         generalize l1.map V.cells=L1 at *
         cases hq:V.right (V.mk k1 n1 s1 l1) with
         | false =>
          rw[hq] at HE hxr
          have HE2:false=R:=HE
          subst HE2
          clear HE hq
          replace hxr:=Lib.hid hxr
          repeat' (first|refine QX ?_|(refine QB ?_;intro b)|(refine QP ?_;intro o' ho')|(with_reducible refine QZ ?_<;>(try constructor)<;>intro hb<;>try intro hb1)|refine Qc Tryz.call83 ((hxr.out _)) ?_|fail)
          all_goals exact Ar
         | true =>
          rw[hq,Bool.true_and] at HE
          rw[hq] at hxr
          clear hq
          replace hxr:=Lib.hid hxr
          replace HE:=Lib.hid HE
          repeat' (first|refine QX ?_|(refine QB ?_;intro b)|(refine QP ?_;intro o' ho')|(with_reducible refine QZ ?_<;>(try constructor)<;>intro hb<;>try intro hb1)|refine Qc Tryz.call83 ((hxr.out _)) ?_|fail)
          refine⟨k+1,⟨hkl,HE,?_,?_,?_,?_,?_,?_,rfl⟩,by omega⟩
          all_goals exact Qf
       · have HE:=HK.out
         rw[List.drop_of_length_le q_o,List.all_nil,Bool.true_and] at HE
         have HW:Hid ((!((F.take i).any fun g=>g.id == f0) && Mat.rightL S F (F.drop (i+1)) (i+1))=R):=HE
         have HN:Hid ((F.take 0).any (fun g=>g.id == f0)=false):=rfl
         clear HE HK hVc hVr
         repeat' (first|refine QX ?_|(refine QB ?_;intro b)|(refine QP ?_;intro o' ho')|(with_reducible refine QZ ?_<;>(try constructor)<;>intro hb<;>try intro hb1)|fail)
         refine Bq (ι:=Nat) (fun k A2 st2=>k≤i∧Hid ((F.take k).any (fun g=>g.id == f0)=false)∧A2.df=[]∧A2.e 0=.sl .shared FS∧A2.e 1=.sl o SS∧A2.e 5=.i i∧A2.e 6=.ptr b 0∧A2.e 8=.i k∧st2=.box b 43 [.i f0,.i f1,.i t,.i f3,.sl .shared VS]::st') (fun k=>i - k) 0 ⟨Nat.zero_le _,HN,Qf,Qf,Qf,Qf,Qf,Qf,rfl⟩ ?_
         clear HN hdf e0 e1 e5 e6 e7
         rintro j A3 st3 ⟨hj,HJ,hdf,e0,e1,e5,e6,e8,rfl⟩
         by_cases hjl:j<i
         · obtain⟨g,hg⟩:=gEx (l:=F) (i:=j) q_o
           have hgc:=hFc.out j g hg
           rw[show g.cells=[.i g.id,.i g.time,.i g.tmpl,.i g.ver,.sl .shared (g.s.map V.cells)] from rfl] at hgc
           have hta:(F.take (j+1)).any (fun g=>g.id == f0)=(g.id == f0):=by
            rw[List.take_add_one,hg,Option.toList_some,List.any_append,HJ.out,Bool.false_or,List.any_cons,List.any_nil,Bool.or_false]
           have hmi:g.id=f0→(F.take i).any (fun g=>g.id == f0)=true:=fun h=>List.any_eq_true.2 ⟨g,List.mem_of_getElem? (i:=j) (by rw[List.getElem?_take,if_pos hjl];exact hg),beq_iff_eq.2 h⟩
           by_cases hid:g.id=f0
           · have HE:=HW.out
             rw[hmi hid] at HE
             have HE2:false=R:=HE
             subst HE2 hid
             clear HE HW HJ hFc hta hmi hg
             generalize g.id=g0 at *
             generalize g.time=g1 at *
             generalize g.tmpl=g2 at *
             generalize g.ver=g3 at *
             generalize g.s.map V.cells=GS at *
             repeat' (first|refine QV ?_|((with_reducible refine QW ?_);intro hne;simp only[nes,ne1,and_assoc] at hne;repeat(have hq:=hne.1;replace hne:=hne.2))|refine QY ?_|(refine QB ?_;intro b)|(refine QP ?_;intro o' ho')|(with_reducible refine QZ ?_<;>(try constructor)<;>intro hb<;>try intro hb1)|fail)
             all_goals exact Ar
           · have HJ2:Hid ((F.take (j+1)).any (fun g=>g.id == f0)=false):=Lib.hid (by rw[hta];exact beq_eq_false_iff_ne.2 hid)
             clear HJ hFc hta hmi hg HW
             generalize g.id=g0 at *
             generalize g.time=g1 at *
             generalize g.tmpl=g2 at *
             generalize g.ver=g3 at *
             generalize g.s.map V.cells=GS at *
             repeat' (first|refine QV ?_|((with_reducible refine QW ?_);intro hne;simp only[nes,ne1,and_assoc] at hne;repeat(have hq:=hne.1;replace hne:=hne.2))|refine QY ?_|(refine QB ?_;intro b)|(refine QP ?_;intro o' ho')|(with_reducible refine QZ ?_<;>(try constructor)<;>intro hb<;>try intro hb1)|fail)
             refine⟨j+1,⟨hjl,HJ2,?_,?_,?_,?_,?_,?_,rfl⟩,by omega⟩
             all_goals exact Qf
         · have hji:j=i:=by omega
           subst hji
           have HE:=HW.out
           rw[HJ.out] at HE
           have HE2:Hid (Mat.rightL S F (F.drop (j+1)) (j+1)=R):=HE
           clear HE HW HJ hFc
           repeat' (first|refine QX ?_|(refine QB ?_;intro b)|(refine QP ?_;intro o' ho')|(with_reducible refine QZ ?_<;>(try constructor)<;>intro hb<;>try intro hb1)|fail)
           refine⟨j+1,st',q_t,⟨hlt,HE2,?_,?_,?_,?_,rfl⟩,by omega⟩
           all_goals exact Qf
     · rw[Bool.eq_false_iff.2 hh,Bool.false_and] at HE
       subst HE
       have hh2:¬(1≤f.id∧0≤f.tmpl∧f.tmpl<S.length∧(f.s.length:Int)=S.getD f.tmpl.toNat 0):=fun h=>hh (Mat.headB_iff.2 h)
       clear hh hVc hVr hFc hf
       by_cases ht:0≤f.tmpl∧f.tmpl<S.length
       · obtain⟨t,htt⟩:∃t:Nat,f.tmpl=t:=⟨f.tmpl.toNat,by omega⟩
         rw[htt] at hfc ht hh2
         rw[Int.toNat_natCast,List.getD_eq_getElem?_getD,List.getElem?_eq_getElem q_o,Option.getD_some] at hh2
         have hsc:=hSc.out t _ (List.getElem?_eq_getElem (by omega:t<S.length))
         generalize S[t]=sv at *
         clear hSc htt
         generalize f.id=f0 at *
         generalize f.time=f1 at *
         generalize f.ver=f3 at *
         generalize f.s.map V.cells=VS at *
         generalize f.s.length=n at *
         repeat' (first|refine QV ?_|with_reducible refine Co ?_|((with_reducible refine QW ?_);intro hne;simp only[nes,ne1,and_assoc] at hne;repeat(have hq:=hne.1;replace hne:=hne.2))|refine QY ?_|(refine QB ?_;intro b)|(refine QP ?_;intro o' ho')|(with_reducible refine QZ ?_<;>(try constructor)<;>intro hb<;>try intro hb1)|fail)
         all_goals exact Ar
       · clear hSc
         generalize f.id=f0 at *
         generalize f.time=f1 at *
         generalize f.ver=f3 at *
         generalize f.tmpl=f2 at *
         generalize f.s.map V.cells=VS at *
         clear hh2
         repeat' (first|refine QV ?_|with_reducible refine Co ?_|((with_reducible refine QW ?_);intro hne;simp only[nes,ne1,and_assoc] at hne;repeat(have hq:=hne.1;replace hne:=hne.2))|refine QY ?_|(refine QB ?_;intro b)|(refine QP ?_;intro o' ho')|(with_reducible refine QZ ?_<;>(try constructor)<;>intro hb<;>try intro hb1)|fail)
         all_goals exact Ar
   · have HE:=HT.out
     rw[List.drop_of_length_le q_o,Mat.rightL] at HE
     subst HE
     clear HT hFc hSc hFR
     exact WRa
 · rw[decide_eq_false h7,Bool.false_and]
   generalize F.map Fc.cells=FS at *
   generalize S.map Ae=SS at *
   clear hF
   refine Qin [4] Tryz.func49 Tryz.results49 Tryz.ntmps49 ?_
   exact WRa
end
namespace Mat
theorem JP{F:List Fc}:∀(ps:List Pt) (ids:List Int) (env:List V),∀y∈from_ F ps ids env,y.1.length≤ids.length+ps.length
|[],ids,env,y,hy=>by
  rw[from_,List.mem_singleton] at hy
  subst hy
  exact Nat.le_refl _
|p::ps,ids,env,y,hy=>by
  rw[from_] at hy
  split at hy
  · split at hy
    · have:=JP ps ids env y hy
      rw[List.length_cons];omega
    · cases hy
  · obtain⟨q, -,h⟩:=List.mem_flatMap.1 hy
    have:=JP ps _ _ y h
    rw[List.length_append,List.length_singleton] at this
    rw[List.length_cons];omega
theorem mats_len{x:Rl}{F:List Fc}{y:List Int×List V}(hy:y∈mats x F):y.1.length≤x.pats.length:=by
 have:=JP x.pats [] empty y hy
 simpa using this
def envP (x:Rl)(F:List Fc)(ids:List Int):Option (List V):=((mats x F).find? fun y=>decide (y.1=ids)).map Prod.snd
end Mat
def Yt:Option (List V)→D
|some e=>.tup [.sl .shared (e.map V.cells),.b true]
|none=>.tup [.sl .tight [],.b false]
theorem TH{α:Type}{p:α→Bool}{L:List α}{i:Nat}{y:α}(h:L[i]?=some y)(h1:∀x∈L.take i,p x=false)(h2:p y=true):L.find? p=some y:=by
 rw[←List.take_append_drop i L,V.drop_cons h,List.find?_append,List.find?_eq_none.2 fun x hx=>by rw[h1 x hx];exact Bool.false_ne_true,Option.none_or,List.find?_cons,h2]
end
end Go.Proofs.YtoeidpmjifjplaaGreat
section
namespace Go.Proofs
open Go.Shelf
def Tryz.sortMatch_ren:Go.Shelf.Ren:=⟨fun|6=>57|15=>93|14=>92|28=>137|29=>138|20=>129|21=>130|22=>131|23=>132|24=>133|25=>134|26=>135|27=>136|46=>167|47=>168|48=>169|49=>170|50=>171|57=>194|n=>n,fun|22=>48|24=>52|25=>94|3=>3|39=>161|0=>0|53=>210|55=>212|4=>4|46=>204|45=>203|50=>168|5=>5|9=>9|66=>240|70=>244|76=>260|77=>261|n=>n,fun|n=>n⟩
theorem Tryz.sortMatch:Go.Proofs.SlLaysF0.n6 Tryz.prog Tryz.sortMatch_ren:={
 mixed:=by kernel_rfl
 f6:=⟨Tryz.f57.name,by decide,Tryz.func57.trans (congrArg some (by kernel_rfl))⟩
 f14:=⟨Tryz.f92.name,by decide,Tryz.func92.trans (congrArg some (by kernel_rfl))⟩
 f15:=Tryz.func93.trans (congrArg some (by kernel_rfl))
 f20:=⟨Tryz.f129.name,by decide,Tryz.func129.trans (congrArg some (by kernel_rfl))⟩
 f21:=⟨Tryz.f130.name,by decide,Tryz.func130.trans (congrArg some (by kernel_rfl))⟩
 f22:=⟨Tryz.f131.name,by decide,Tryz.func131.trans (congrArg some (by kernel_rfl))⟩
 f23:=⟨Tryz.f132.name,by decide,Tryz.func132.trans (congrArg some (by kernel_rfl))⟩
 f24:=⟨Tryz.f133.name,by decide,Tryz.func133.trans (congrArg some (by kernel_rfl))⟩
 f25:=⟨Tryz.f134.name,by decide,Tryz.func134.trans (congrArg some (by kernel_rfl))⟩
 f26:=⟨Tryz.f135.name,by decide,Tryz.func135.trans (congrArg some (by kernel_rfl))⟩
 f27:=⟨Tryz.f136.name,by decide,Tryz.func136.trans (congrArg some (by kernel_rfl))⟩
 f28:=Tryz.func137.trans (congrArg some (by kernel_rfl))
 f29:=Tryz.func138.trans (congrArg some (by kernel_rfl))
 f46:=⟨Tryz.f167.name,by decide,Tryz.func167.trans (congrArg some (by kernel_rfl))⟩
 f47:=Tryz.func168.trans (congrArg some (by kernel_rfl))
 f48:=Tryz.func169.trans (congrArg some (by kernel_rfl))
 f49:=⟨Tryz.f170.name,by decide,Tryz.func170.trans (congrArg some (by kernel_rfl))⟩
 f50:=⟨Tryz.f171.name,by decide,Tryz.func171.trans (congrArg some (by kernel_rfl))⟩
 f57:=⟨Tryz.f194.name,by decide,Tryz.func194.trans (congrArg some (by kernel_rfl))⟩
 t0:=Tryz.underlying0
 a0:=Tryz.isAgg0
 z0:=Tryz.sizeOf0
 v0:=Tryz.zeroValue0
 t3:=Tryz.underlying3
 a3:=Tryz.isAgg3
 z3:=Tryz.sizeOf3
 v3:=Tryz.zeroValue3
 t4:=Tryz.underlying4
 a4:=Tryz.isAgg4
 z4:=Tryz.sizeOf4
 v4:=Tryz.zeroValue4
 t5:=Tryz.underlying5
 a5:=Tryz.isAgg5
 z5:=Tryz.sizeOf5
 v5:=Tryz.zeroValue5
 t9:=Tryz.underlying9
 a9:=Tryz.isAgg9
 z9:=Tryz.sizeOf9
 v9:=Tryz.zeroValue9
 t22:=Tryz.underlying48
 a22:=Tryz.isAgg48
 z22:=Tryz.sizeOf48
 v22:=Tryz.zeroValue48
 t25:=Tryz.underlying94
 a25:=Tryz.isAgg94
 z25:=Tryz.sizeOf94
 v25:=Tryz.zeroValue94
 t39:=Tryz.underlying161
 a39:=Tryz.isAgg161
 z39:=Tryz.sizeOf161
 v39:=Tryz.zeroValue161
 t45:=Tryz.underlying203
 a45:=Tryz.isAgg203
 z45:=Tryz.sizeOf203
 v45:=Tryz.zeroValue203
 t46:=Tryz.underlying204
 a46:=Tryz.isAgg204
 z46:=Tryz.sizeOf204
 v46:=Tryz.zeroValue204
 t50:=Tryz.underlying168
 a50:=Tryz.isAgg168
 z50:=Tryz.sizeOf168
 v50:=Tryz.zeroValue168
 t53:=Tryz.underlying210
 a53:=Tryz.isAgg210
 z53:=Tryz.sizeOf210
 v53:=Tryz.zeroValue210
 t55:=Tryz.underlying212
 a55:=Tryz.isAgg212
 z55:=Tryz.sizeOf212
 v55:=Tryz.zeroValue212
 t66:=Tryz.underlying240
 a66:=Tryz.isAgg240
 z66:=Tryz.sizeOf240
 v66:=Tryz.zeroValue240
 t70:=Tryz.underlying244
 a70:=Tryz.isAgg244
 z70:=Tryz.sizeOf244
 v70:=Tryz.zeroValue244
 t76:=Tryz.underlying260
 a76:=Tryz.isAgg260
 z76:=Tryz.sizeOf260
 v76:=Tryz.zeroValue260
 t77:=Tryz.underlying261
 a77:=Tryz.isAgg261
 z77:=Tryz.sizeOf261
 v77:=Tryz.zeroValue261}
end Go.Proofs
end
namespace Go.Proofs.YtoeidpmjifjplaaGreat
open Go.RowKit
section
open Go.RowKit Go.Sort
def BU (l:List Mt):List D:=(l.map Mt.cells).flatten
theorem KU(l:List Mt):∀e∈l.map Mt.cells,e.length=2:=fun e he=>by
 obtain⟨x, -,rfl⟩:=List.mem_map.1 he
 rfl
theorem ED(l:List Mt):(BU l).length=l.length*2:=by
 unfold BU
 rw[Bb (KU l),List.length_map]
theorem Hn{W w':World}(h:Ext (OwnS []) W (OwnS []) w'):∃q os',w'=grow (W.drewN q) os':=by
 refine⟨w'.drawn - W.drawn,w'.heap.extract W.heap.size w'.heap.size,?_⟩
 have hd:=h.dr
 have ho:=h.os
 have ht:=h.tape
 have hu:=h.output
 have hs:=h.size
 have hb:=h.block
 obtain⟨heap',tape',drawn',os',output'⟩:=w'
 obtain⟨heap,tape,drawn,os,output⟩:=W
 unfold grow World.drewN
 dsimp only at *
 subst ho ht hu
 have hheap:heap'=heap++heap'.extract heap.size heap'.size:=by
  apply Array.ext_getElem?
  intro i
  rcases Nat.lt_or_ge i heap.size with hi|hi
  · rw[Array.getElem?_append_left hi]
    exact hb i hi fun off=>OwnS.nil i off
  · rw[Array.getElem?_append_right hi,Array.getElem?_extract]
    split
    · congr 1;omega
    · rw[Array.getElem?_eq_none q_o]
 rw[←hheap]
 congr 1
 omega
structure Cell (O:Nat→Nat→Prop)(w:World) where
 v1:Value
 v2:Value
 m:Mt
 h1:v1=.int .i64 m.rule
 h2:Rep O w v2 (.sl .shared (m.ids.map Ae))
 hl:m.ids.length≤1000000
def Cell.enc {O:Nat→Nat→Prop}{w:World}(c:Cell O w):List Value:=[c.v1,c.v2]
theorem OH{O:Nat→Nat→Prop}{w:World}:∀{l:List Mt} {us:List Value},RepL O w us (BU l)→(∀m∈l,m.ids.length≤1000000)→∃cs:List (Cell O w),cs.map Cell.m=l∧(cs.map Cell.enc).flatten=us
|[],us,h,_=>by
  obtain rfl:=h.inv_nil
  exact⟨[],rfl,rfl⟩
|m::l,us,h,hl=>by
  have e:BU (m::l)=.i m.rule::.sl .shared (m.ids.map Ae)::BU l:=by
   unfold BU
   rw[List.map_cons,List.flatten_cons]
   rfl
  rw[e] at h
  obtain⟨u,t,rfl,q1,q2⟩:=h.inv_cons
  obtain⟨u2,t2,rfl,q3,q4⟩:=q2.inv_cons
  obtain⟨cs,k1,k2⟩:=OH q4 fun x hx=>hl x (List.mem_cons_of_mem _ hx)
  refine⟨⟨u,u2,m,AX q1,q3,hl m (List.mem_cons_self ..)⟩::cs,by rw[List.map_cons,k1],?_⟩
  rw[List.map_cons,List.flatten_cons,k2]
  rfl
theorem Yv{O:Nat→Nat→Prop}{w:World}(c:Cell O w):c.enc.length=2:=rfl
theorem LW{O:Nat→Nat→Prop}{w:World}:∀(cs:List (Cell O w)) (t:Nat),((cs.map Cell.enc).flatten)[t]?=(cs[t / 2]?).bind fun c=>c.enc[t % 2]?
|[],t=>by simp
|c::cs,0=>rfl
|c::cs,1=>rfl
|c::cs,t+2=>by
  have h1:(t+2) / 2=t / 2+1:=by omega
  have h2:(t+2) % 2=t % 2:=by omega
  rw[h1,h2,List.getElem?_cons_succ,List.map_cons,List.flatten_cons]
  have:=LW cs t
  rw[←this]
  rfl
theorem JV{O:Nat→Nat→Prop}{w:World}[Inhabited (Cell O w)](cs:List (Cell O w)):(flatK Cell.enc 2 cs.toArray).toList=(cs.map Cell.enc).flatten:=by
 apply List.ext_getElem?
 intro t
 rw[LW]
 by_cases ht:t<cs.length*2
 · have hs:t<(flatK Cell.enc 2 cs.toArray).size:=by rw[size_flatK];simpa using ht
   have h1:=get_flatK Cell.enc 2 cs.toArray t (by simpa using ht)
   rw[getElem!_pos _ t hs] at h1
   rw[Array.getElem?_toList,Array.getElem?_eq_getElem hs,h1]
   have h2:t / 2<cs.length:=by omega
   rw[List.getElem?_eq_getElem h2,Option.bind_some,getElem!_pos _ (t / 2) (by simpa using h2)]
   have h3:t % 2<(cs[t / 2]).enc.length:=by rw[Yv];omega
   simp only[List.getElem_toArray]
   rw[getElem!_pos _ (t % 2) h3,List.getElem?_eq_getElem h3]
 · rw[List.getElem?_eq_none (l:=cs) q_o,Array.getElem?_toList,Array.getElem?_eq_none (by rw[size_flatK];simp;omega)]
   rfl
theorem LV{O:Nat→Nat→Prop}{w:World}:∀cs:List (Cell O w),RepL O w (cs.map Cell.enc).flatten (BU (cs.map Cell.m))
|[]=>RepL.nil
|c::cs=>by
  have e:BU ((c::cs).map Cell.m)=.i c.m.rule::.sl .shared (c.m.ids.map Ae)::BU (cs.map Cell.m):=by
   unfold BU
   rw[List.map_cons,List.map_cons,List.flatten_cons]
   rfl
  rw[e,List.map_cons,List.flatten_cons]
  show RepL O w (c.v1::c.v2::(cs.map Cell.enc).flatten) _
  refine RepL.cons ?_ (RepL.cons c.h2 (LV cs))
  rw[c.h1]
  exact .s _ rfl
theorem Sy(l:List Mt):∀d∈BU l,d.leaf=true:=by
 intro d hd
 obtain⟨e,he,hd⟩:=List.mem_flatten.1 hd
 obtain⟨m, -,rfl⟩:=List.mem_map.1 he
 unfold Mt.cells at hd
 rcases List.mem_cons.1 hd with rfl|hd
 · rfl
 · rw[List.mem_singleton] at hd
   subst hd
   rfl
theorem ltM{O:Nat→Nat→Prop}{w:World}(x y:Cell O w):ltOf (fun x y:Cell O w=>Mat.ord x.m y.m) x y=Mat.less x.m y.m:=rfl
theorem eK(O:Nat→Nat→Prop)(w:World):SWO (ltOf (fun x y:Cell O w=>Mat.ord x.m y.m)) where
 irrefl x:=by rw[ltM];unfold Mat.less;rw[Mat.ord_self];rfl
 trans x y z h1 h2:=by
  rw[ltM] at *
  unfold Mat.less at *
  exact decide_eq_true (Mat.ord_trans (of_decide_eq_true h1) (of_decide_eq_true h2))
 ntrans x y z h1 h2:=by
  rw[ltM] at *
  exact Mat.not_less.2 (Mat.le_trans (Mat.not_less.1 h2) (Mat.not_less.1 h1))
theorem JN(O:Nat→Nat→Prop)(w:World)(os:Array Obj):Ext O w O (grow w os) :=
 ⟨Nat.le_refl _,rfl,rfl,rfl,by show w.heap.size≤(w.heap++os).size;rw[Array.size_append];exact Nat.le_add_right _ _,fun _ _ _ h=>h,fun b hb _=>by show(w.heap++os)[b]?=_;rw[Array.getElem?_append_left hb],fun b c E fr h=>⟨c,fr,by show(w.heap++os)[b]?=_;rw[Array.getElem?_append_left (Array.getElem?_eq_some_iff.1 h).1];exact h,rfl,fun _ _=>rfl⟩⟩
theorem JM{st:St}{w:World}(h:Holds st w)(os:Array Obj):Holds st (grow w os):=h.keep (JN _ w os) fun b hb=>by show(w.heap++os)[b]?=_;rw[Array.getElem?_append_left hb]
theorem Ng{g:Nat}{ty:TypeId}{cs:List D}{st:St}{w:World}{us:Array Value}(hb:w.heap[g]?=some (.cells us ty (0,0)))(m:Nat)(F:Array Value)(os:Array Obj):Ext (OwnS (.box g ty cs::st)) w (OwnS []) (grow (Sort.putRow id (Sort.ahead w m) g 0 F) os):=by
 have hown:∀off,OwnS (.box g ty cs::st) g off:=fun off=>OwnS.cons_iff.2 (.inl ⟨rfl,Nat.zero_le _⟩)
 have hat:∀b,b<w.heap.size→b≠g→(grow (Sort.putRow id (Sort.ahead w m) g 0 F) os).heap[b]?=w.heap[b]?:=fun b hl hn=>by
  unfold grow Sort.putRow Sort.mapBlock Sort.ahead
  dsimp only
  rw[Array.getElem?_append_left (by rw[Array.size_modify];exact hl),Array.getElem?_modify,if_neg (Ne.symm hn)]
 have hg:(grow (Sort.putRow id (Sort.ahead w m) g 0 F) os).heap[g]?=some (.cells (Sort.putCells id 0 F us) ty (0,0)):=by
  have hl:=(Array.getElem?_eq_some_iff.1 hb).1
  unfold grow Sort.putRow Sort.mapBlock Sort.ahead
  dsimp only
  rw[Array.getElem?_append_left (by rw[Array.size_modify];exact hl),Array.getElem?_modify,if_pos rfl,hb]
  rfl
 refine⟨Nat.le_add_right _ _,rfl,rfl,rfl,?_,fun b off _ h=>absurd h (OwnS.nil b off),fun b hl hno=>?_,fun b c E fr hc=>?_⟩
 · unfold grow Sort.putRow Sort.mapBlock Sort.ahead
   dsimp only
   rw[Array.size_append,Array.size_modify]
   exact Nat.le_add_right _ _
 · exact hat b hl fun e=>hno 0 (e▸hown 0)
 · by_cases e:b=g
   · subst e
     rw[hb] at hc
     cases hc
     exact⟨_,_,hg,by simp[Sort.putCells],fun off hno=>absurd (hown off) hno⟩
   · exact⟨c,fr,(hat b (Array.getElem?_eq_some_iff.1 hc).1 e).trans hc,rfl,fun _ _=>rfl⟩
end
section
attribute [local push_cast] Ad Ae Ao V.cells_mk V.cells_len Nat.mul_one Int.sub_zero List.map_nil beq_self_eq_true bne_self_eq_false List.head?_cons Bool.not_true Bool.not_false Nat.zero_add
namespace Mat
def sortM (l:List Mt):List Mt:=l.foldl ins []
theorem sortM_srt(l:List Mt):Srt (sortM l)∧(sortM l).Perm l:=by
 have h:=Ov l [] List.Pairwise.nil
 rw[List.append_nil] at h
 exact h
theorem sortM_eq{l m:List Mt}(h1:m.Perm l)(h2:Srt m):m=sortM l:=OW h2 (sortM_srt l).1 (h1.trans (sortM_srt l).2.symm)
end Mat
def OutS (b5:Nat)(acc:List Mt)(rest st':St):Prop:=(acc=[]∧st'=.box b5 48 [.sl .tight []]::rest)∨(acc≠[]∧∃g cap zs,(BU acc++zs).length=cap*2∧st'=.box b5 48 [.ar g 0 acc.length cap]::.box g 52 (BU acc++zs)::rest)
theorem UT(l:List Mt)(m:Mt):BU (l++[m])=BU l++[m.cells].flatten:=by
 unfold BU
 rw[List.map_append,List.flatten_append]
 rfl
def AllRaw (L:List Mt)(st:St)(d:D)(st':St):Prop:=(L=[]∧d=.sl .tight []∧st'=st)∨(L≠[]∧∃g cap zs,d=.ar g 0 L.length cap∧st'=.box g 52 (BU (Mat.sortM L)++zs)::st)
theorem perm_in2{a b:Res}{M s:St}:(a::b::(M++s)).Perm (M++(a::b::s)):=by
 have h:([a,b]++(M++s)).Perm (M++([a,b]++s)):=by
  rw[←List.append_assoc,←List.append_assoc]
  exact List.perm_append_comm.append_right s
 exact h
theorem DM{ts:List Tmp}{R:D→St→Prop}{ex:Exit}{A:AA}{X:D}{st st0 s2:St}{rs:List Nat}(hex:ex=.normal∨ex=.ret)(hdf:A.df=rs.map BV)(hp:st.Perm (rs.map Al++s2))(hs:st0.Sublist s2)(hd:LE (Jr ts A.e) X)(hR:R X st0):Nw ts R ex A st:=by
 rcases hex with rfl|rfl<;>exact⟨rs,X,s2,st0,hdf,hp,hs,hd,hR⟩
end
section
attribute [local push_cast] Ad Ae Ao V.cells_mk V.cells_len Nat.mul_one Int.sub_zero List.map_nil beq_self_eq_true bne_self_eq_false List.head?_cons
namespace Rul
theorem slots_in{L:List Tm}{k:Nat}{t:Tm}(h:L[k]?=some t):slots L (k:Int)=(Sch.verX t (Sch.last t)).slots:=by
 have:=(List.getElem?_eq_some_iff.1 h).1
 unfold slots
 rw[if_pos ⟨by omega,by omega⟩,Int.toNat_natCast,h]
theorem slots_out{L:List Tm}{k:Int}(h:¬(0≤k∧k<L.length)):slots L k=[]:=if_neg h
end Rul
theorem Fd(L:List Tm)(hL:∀t∈L,TOk t)(hl:L.length≤1000000)(k:Int)(st:St):TrF Tryz.prog 48 [.sl .shared (L.map Tm.cells),.i k] st fun d st'=>d=.sl .shared ((Rul.slots L k).map Sl.cells)∧st'=st:=by
 have hm:(L.map Tm.cells).length=L.length:=List.length_map ..
 by_cases hk:0≤k∧k<L.length
 · obtain⟨n,rfl⟩:∃n:Nat,(n:Int)=k:=⟨k.toNat,Int.toNat_of_nonneg hk.1⟩
   obtain⟨t,ht⟩:=gEx (l:=L) (i:=n) q_o
   have hc:(L.map Tm.cells)[n]?=some t.cells:=by rw[List.getElem?_map,ht];rfl
   have hLa:=Nk t (hL t (List.mem_of_getElem? ht))
   have hAt:=ZE t (hL t (List.mem_of_getElem? ht)) (Sch.last t)
   rw[Rul.slots_in ht]
   clear hL ht
   generalize L.map Tm.cells=LS at *
   generalize Sch.verX t (Sch.last t)=x at *
   generalize Sch.verB t (Sch.last t)=xb at *
   generalize Sch.last t=la at *
   unfold Vr.cells at hAt
   generalize x.slots.map Sl.cells=X1 at *
   generalize x.cols.map Ao=X2 at *
   unfold Tm.cells at *
   generalize t.slots.map Sl.cells=SL at *
   generalize t.steps.map Stp.cells=TL at *
   generalize t.name=nm at *
   replace hLa:=Lib.hid hLa
   replace hAt:=Lib.hid hAt
   obtain⟨hk1,hk2⟩:=hk
   refine Qin [4] Tryz.func48 Tryz.results48 Tryz.ntmps48 ?_
   repeat' (first|refine QV ?_|((with_reducible apply(WS (.node [0,1,2,3,4,5,6,7] 13 8 (.node [8] 13 9 (.leaf [9,10,11,12,13,14,15]) (.leaf [13,9,10,11,12,14,15])) (.leaf [13,8,9,10,11,12,14,15])) 16));rfl;(iterate 3 kernel_rfl);(focus(simp only[Plan.lists,CD,List.getElem?_cons_zero,List.getElem?_cons_succ];exact rfl));intro hne;(try simp only[nes,ne1,and_assoc] at hne);(repeat(have hq:=hne.1;replace hne:=hne.2));simp only[wPL])|with_reducible refine YF ?_ ?_|refine QY ?_|(refine QB ?_;intro b)|(with_reducible refine QZ ?_<;>(try constructor)<;>intro hb<;>try intro hb1)|fail)
   all_goals exact Ar
 · rw[Rul.slots_out hk]
   generalize L.map Tm.cells=LS at *
   by_cases h0:k<0
   · refine Qin [4] Tryz.func48 Tryz.results48 Tryz.ntmps48 ?_
     exact WR
   · have h1:(L.length:Int)≤k:=by omega
     refine Qin [4] Tryz.func48 Tryz.results48 Tryz.ntmps48 ?_
     exact WR
namespace Rul
end Rul
namespace Rul
def idx {α σ:Type}(F:σ→α→Bool×σ):σ→List α→Nat→Int×σ
|s,[],_=>(-1,s)
|s,a::l,i=>if (F s a).1=true then((i:Int),(F s a).2) else idx F (F s a).2 l (i+1)
def anyS {α σ:Type}(F:σ→α→Bool×σ):σ→List α→Bool×σ
|s,[]=>(false,s)
|s,a::l=>if (F s a).1=true then(true,(F s a).2) else anyS F (F s a).2 l
theorem idx_any{α σ:Type}(F:σ→α→Bool×σ):∀(l:List α) (s:σ) (i:Nat),(idx F s l i).2=(anyS F s l).2∧decide ((idx F s l i).1≥0)=(anyS F s l).1
|[],s,i=>⟨rfl,rfl⟩
|a::l,s,i=>by
  rw[idx,anyS]
  split
  · exact⟨rfl,decide_eq_true (by show(i:Int)≥0;omega)⟩
  · exact idx_any F l _ _
theorem idx_drop{α σ:Type}(F:σ→α→Bool×σ){L:List α}{i:Nat}{a:α}(h:L[i]?=some a)(s:σ):idx F s (L.drop i) i=if (F s a).1=true then((i:Int),(F s a).2) else idx F (F s a).2 (L.drop (i+1)) (i+1):=by
 obtain⟨h1,rfl⟩:=List.getElem?_eq_some_iff.1 h
 rw[List.drop_eq_getElem_cons h1,idx]
theorem idx_le{α σ:Type}(F:σ→α→Bool×σ):∀(l:List α) (s:σ) (i:Nat), -1≤(idx F s l i).1∧(idx F s l i).1≤i+l.length
|[],s,i=>⟨Int.le_refl _,by show(-1:Int)≤_;omega⟩
|a::l,s,i=>by
  rw[idx]
  split
  · dsimp only;rw[List.length_cons];omega
  · have:=idx_le F l (F s a).2 (i+1)
    rw[List.length_cons];omega
end Rul
theorem VU{σ:Type}(fn:FuncId)(caps:List D)(hcall:∀args w,(callFunc fn args).run Tryz.prog w=.ok (.enter fn args) w)(L:List Ts)(hl:L.length≤1000000)(F:σ→Ts→Bool×σ)(S:σ→St)
 (hF:∀a∈L,∀s,TrF Tryz.prog fn (.agg a.cells::caps) (S s) fun d st'=>d=.b (F s a).1∧st'=S (F s a).2)(s0:σ):TrF Tryz.prog 180 [.sl .shared (L.map Ts.cells),.fn (.func fn) [] caps] (S s0) fun d st'=>d=.i (Rul.idx F s0 L 0).1∧st'=S (Rul.idx F s0 L 0).2:=by
 obtain⟨R,hR⟩:∃R,Rul.idx F s0 L 0=R:=⟨_,rfl⟩
 rw[hR]
 have HF:Hid (Rul.idx F s0 (L.drop 0) 0=R):=hR
 have hm:(L.map Ts.cells).length=L.length:=List.length_map ..
 have hc:=hMp Ts.cells L
 have hF2:=Lib.hid hF
 clear hR hF
 generalize L.map Ts.cells=LS at *
 refine Qin [4] Tryz.func180 Tryz.results180 Tryz.ntmps180 ?_
 repeat' (first|refine QX ?_|(refine QB ?_;intro b)|(with_reducible refine QZ ?_<;>(try constructor)<;>intro hb<;>try intro hb1)|fail)
 refine Aj (ι:=Nat) (fun i A st'=>i≤L.length∧A.df=[]∧A.e 0=.sl .shared LS∧A.e 1=.fn (.func fn) [] caps∧A.e 7=.i L.length∧A.e 8=.i i∧∃s,Hid (Rul.idx F s (L.drop i) i=R)∧st'=S s) (fun i=>L.length - i) 0 ⟨Nat.zero_le _,Qf,Qf,Qf,Qf,Qf,s0,HF,rfl⟩ ?_
 clear HF
 rintro i A st' ⟨hi,hdf,e0,e1,e7,e8,s,HT,rfl⟩
 by_cases hlt:i<L.length
 · obtain⟨a,ha⟩:=gEx hlt
   have h1:=hc.out i a ha
   have hG:=hF2.out a (List.mem_of_getElem? ha) s
   have HE:=HT.out
   rw[Rul.idx_drop F ha] at HE
   clear HT ha hF2
   generalize F s a=q at *
   obtain⟨q,s'⟩:=q
   dsimp only at *
   cases a with
   | mk kind slot var val =>
   cases val with
   | mk k1 n1 s1 l1 =>
   rw[Ts.cells_mk] at h1 hG
   replace hG:=Lib.hid hG
   cases q with
   | true =>
    rw[if_pos rfl] at HE
    subst HE
    repeat' (first|refine QX ?_|(refine QB ?_;intro b)|(with_reducible refine QZ ?_<;>(try constructor)<;>intro hb<;>try intro hb1)|refine Qc hcall hG.out ?_|fail)
    all_goals exact Ar
   | false =>
    rw[if_neg Bool.false_ne_true] at HE
    replace HE:=Lib.hid HE
    repeat' (first|refine QX ?_|(refine QB ?_;intro b)|(with_reducible refine QZ ?_<;>(try constructor)<;>intro hb<;>try intro hb1)|refine Qc hcall hG.out ?_|fail)
    refine⟨i+1,S s',q_u,⟨hlt,?_,?_,?_,?_,?_,s',HE,rfl⟩,by omega⟩
    all_goals exact Qf
 · have HE:=HT.out
   rw[List.drop_of_length_le q_o,Rul.idx] at HE
   subst HE
   clear HT hF2
   exact WR
theorem Wm{σ:Type}(fn:FuncId)(caps:List D)(hcall:∀args w,(callFunc fn args).run Tryz.prog w=.ok (.enter fn args) w)(L:List Ts)(hl:L.length≤1000000)(F:σ→Ts→Bool×σ)(S:σ→St)
 (hF:∀a∈L,∀s,TrF Tryz.prog fn (.agg a.cells::caps) (S s) fun d st'=>d=.b (F s a).1∧st'=S (F s a).2)(s0:σ):TrF Tryz.prog 150 [.sl .shared (L.map Ts.cells),.fn (.func fn) [] caps] (S s0) fun d st'=>d=.b (Rul.anyS F s0 L).1∧st'=S (Rul.anyS F s0 L).2:=by
 have hI:=VU fn caps hcall L hl F S hF s0
 obtain⟨e1,e2⟩:=Rul.idx_any F L s0 0
 have hle:=Rul.idx_le F L s0 0
 rw[←e1,←e2]
 clear e1 e2 hF
 generalize Rul.idx F s0 L 0=R at *
 obtain⟨R,s'⟩:=R
 generalize L.map Ts.cells=LS at *
 dsimp only at *
 replace hI:=Lib.hid hI
 by_cases hR:R≥0
 · rw[decide_eq_true hR]
   refine Qin [4] Tryz.func150 Tryz.results150 Tryz.ntmps150 ?_
   repeat' (first|refine QX ?_|(refine QB ?_;intro b)|(with_reducible refine QZ ?_<;>(try constructor)<;>intro hb<;>try intro hb1)|refine Qc Tryz.call180 hI.out ?_|fail)
   all_goals exact Ar
 · rw[decide_eq_false hR]
   refine Qin [4] Tryz.func150 Tryz.results150 Tryz.ntmps150 ?_
   repeat' (first|refine QX ?_|(refine QB ?_;intro b)|(with_reducible refine QZ ?_<;>(try constructor)<;>intro hb<;>try intro hb1)|refine Qc Tryz.call180 hI.out ?_|fail)
   all_goals exact Ar
theorem Yl{σ:Type}(fn:FuncId)(caps:List D)(hcall:∀args w,(callFunc fn args).run Tryz.prog w=.ok (.enter fn args) w)(L:List Pt)(hl:L.length≤1000000)(F:σ→Pt→Bool×σ)(S:σ→St)
 (hF:∀a∈L,∀s,TrF Tryz.prog fn (.agg a.cells::caps) (S s) fun d st'=>d=.b (F s a).1∧st'=S (F s a).2)(s0:σ):TrF Tryz.prog 149 [.sl .shared (L.map Pt.cells),.fn (.func fn) [] caps] (S s0) fun d st'=>d=.i (Rul.idx F s0 L 0).1∧st'=S (Rul.idx F s0 L 0).2:=by
 obtain⟨R,hR⟩:∃R,Rul.idx F s0 L 0=R:=⟨_,rfl⟩
 rw[hR]
 have HF:Hid (Rul.idx F s0 (L.drop 0) 0=R):=hR
 have hm:(L.map Pt.cells).length=L.length:=List.length_map ..
 have hc:=hMp Pt.cells L
 have hF2:=Lib.hid hF
 clear hR hF
 generalize L.map Pt.cells=LS at *
 refine Qin [4] Tryz.func149 Tryz.results149 Tryz.ntmps149 ?_
 repeat' (first|refine QX ?_|(refine QB ?_;intro b)|(with_reducible refine QZ ?_<;>(try constructor)<;>intro hb<;>try intro hb1)|fail)
 refine Aj (ι:=Nat) (fun i A st'=>i≤L.length∧A.df=[]∧A.e 0=.sl .shared LS∧A.e 1=.fn (.func fn) [] caps∧A.e 7=.i L.length∧A.e 8=.i i∧∃s,Hid (Rul.idx F s (L.drop i) i=R)∧st'=S s) (fun i=>L.length - i) 0 ⟨Nat.zero_le _,Qf,Qf,Qf,Qf,Qf,s0,HF,rfl⟩ ?_
 clear HF
 rintro i A st' ⟨hi,hdf,e0,e1,e7,e8,s,HT,rfl⟩
 by_cases hlt:i<L.length
 · obtain⟨a,ha⟩:=gEx hlt
   have h1:=hc.out i a ha
   have hG:=hF2.out a (List.mem_of_getElem? ha) s
   have HE:=HT.out
   rw[Rul.idx_drop F ha] at HE
   clear HT ha hF2
   generalize F s a=q at *
   obtain⟨q,s'⟩:=q
   dsimp only at *
   unfold Pt.cells at h1 hG
   cases a with
   | mk tmpl neg tests =>
   dsimp only at h1 hG
   generalize tests.map Ts.cells=TS at *
   replace hG:=Lib.hid hG
   cases q with
   | true =>
    rw[if_pos rfl] at HE
    subst HE
    repeat' (first|refine QX ?_|(refine QB ?_;intro b)|(with_reducible refine QZ ?_<;>(try constructor)<;>intro hb<;>try intro hb1)|refine Qc hcall hG.out ?_|fail)
    all_goals exact Ar
   | false =>
    rw[if_neg Bool.false_ne_true] at HE
    replace HE:=Lib.hid HE
    repeat' (first|refine QX ?_|(refine QB ?_;intro b)|(with_reducible refine QZ ?_<;>(try constructor)<;>intro hb<;>try intro hb1)|refine Qc hcall hG.out ?_|fail)
    refine⟨i+1,S s',q_u,⟨hlt,?_,?_,?_,?_,?_,s',HE,rfl⟩,by omega⟩
    all_goals exact Qf
 · have HE:=HT.out
   rw[List.drop_of_length_le q_o,Rul.idx] at HE
   subst HE
   clear HT hF2
   exact WR
theorem Yz{σ:Type}(fn:FuncId)(caps:List D)(hcall:∀args w,(callFunc fn args).run Tryz.prog w=.ok (.enter fn args) w)(L:List Pt)(hl:L.length≤1000000)(F:σ→Pt→Bool×σ)(S:σ→St)
 (hF:∀a∈L,∀s,TrF Tryz.prog fn (.agg a.cells::caps) (S s) fun d st'=>d=.b (F s a).1∧st'=S (F s a).2)(s0:σ):TrF Tryz.prog 116 [.sl .shared (L.map Pt.cells),.fn (.func fn) [] caps] (S s0) fun d st'=>d=.b (Rul.anyS F s0 L).1∧st'=S (Rul.anyS F s0 L).2:=by
 have hI:=Yl fn caps hcall L hl F S hF s0
 obtain⟨e1,e2⟩:=Rul.idx_any F L s0 0
 have hle:=Rul.idx_le F L s0 0
 rw[←e1,←e2]
 clear e1 e2 hF
 generalize Rul.idx F s0 L 0=R at *
 obtain⟨R,s'⟩:=R
 generalize L.map Pt.cells=LS at *
 dsimp only at *
 replace hI:=Lib.hid hI
 by_cases hR:R≥0
 · rw[decide_eq_true hR]
   refine Qin [4] Tryz.func116 Tryz.results116 Tryz.ntmps116 ?_
   repeat' (first|refine QX ?_|(refine QB ?_;intro b)|(with_reducible refine QZ ?_<;>(try constructor)<;>intro hb<;>try intro hb1)|refine Qc Tryz.call149 hI.out ?_|fail)
   all_goals exact Ar
 · rw[decide_eq_false hR]
   refine Qin [4] Tryz.func116 Tryz.results116 Tryz.ntmps116 ?_
   repeat' (first|refine QX ?_|(refine QB ?_;intro b)|(with_reducible refine QZ ?_<;>(try constructor)<;>intro hb<;>try intro hb1)|refine Qc Tryz.call149 hI.out ?_|fail)
   all_goals exact Ar
theorem Ym{σ:Type}(fn:FuncId)(caps:List D)(hcall:∀args w,(callFunc fn args).run Tryz.prog w=.ok (.enter fn args) w)(L:List Ac)(hl:L.length≤1000000)(F:σ→Ac→Bool×σ)(S:σ→St)
 (hF:∀a∈L,∀s,TrF Tryz.prog fn (.agg a.cells::caps) (S s) fun d st'=>d=.b (F s a).1∧st'=S (F s a).2)(s0:σ):TrF Tryz.prog 153 [.sl .shared (L.map Ac.cells),.fn (.func fn) [] caps] (S s0) fun d st'=>d=.i (Rul.idx F s0 L 0).1∧st'=S (Rul.idx F s0 L 0).2:=by
 obtain⟨R,hR⟩:∃R,Rul.idx F s0 L 0=R:=⟨_,rfl⟩
 rw[hR]
 have HF:Hid (Rul.idx F s0 (L.drop 0) 0=R):=hR
 have hm:(L.map Ac.cells).length=L.length:=List.length_map ..
 have hc:=hMp Ac.cells L
 have hF2:=Lib.hid hF
 clear hR hF
 generalize L.map Ac.cells=LS at *
 refine Qin [4] Tryz.func153 Tryz.results153 Tryz.ntmps153 ?_
 repeat' (first|refine QX ?_|(refine QB ?_;intro b)|(with_reducible refine QZ ?_<;>(try constructor)<;>intro hb<;>try intro hb1)|fail)
 refine Aj (ι:=Nat) (fun i A st'=>i≤L.length∧A.df=[]∧A.e 0=.sl .shared LS∧A.e 1=.fn (.func fn) [] caps∧A.e 7=.i L.length∧A.e 8=.i i∧∃s,Hid (Rul.idx F s (L.drop i) i=R)∧st'=S s) (fun i=>L.length - i) 0 ⟨Nat.zero_le _,Qf,Qf,Qf,Qf,Qf,s0,HF,rfl⟩ ?_
 clear HF
 rintro i A st' ⟨hi,hdf,e0,e1,e7,e8,s,HT,rfl⟩
 by_cases hlt:i<L.length
 · obtain⟨a,ha⟩:=gEx hlt
   have h1:=hc.out i a ha
   have hG:=hF2.out a (List.mem_of_getElem? ha) s
   have HE:=HT.out
   rw[Rul.idx_drop F ha] at HE
   clear HT ha hF2
   generalize F s a=q at *
   obtain⟨q,s'⟩:=q
   dsimp only at *
   unfold Ac.cells at h1 hG
   cases a with
   | mk kind pat tmpl slot vals =>
   dsimp only at h1 hG
   generalize vals.map Ex.cells=ES at *
   replace hG:=Lib.hid hG
   cases q with
   | true =>
    rw[if_pos rfl] at HE
    subst HE
    repeat' (first|refine QX ?_|(refine QB ?_;intro b)|(with_reducible refine QZ ?_<;>(try constructor)<;>intro hb<;>try intro hb1)|refine Qc hcall hG.out ?_|fail)
    all_goals exact Ar
   | false =>
    rw[if_neg Bool.false_ne_true] at HE
    replace HE:=Lib.hid HE
    repeat' (first|refine QX ?_|(refine QB ?_;intro b)|(with_reducible refine QZ ?_<;>(try constructor)<;>intro hb<;>try intro hb1)|refine Qc hcall hG.out ?_|fail)
    refine⟨i+1,S s',q_u,⟨hlt,?_,?_,?_,?_,?_,s',HE,rfl⟩,by omega⟩
    all_goals exact Qf
 · have HE:=HT.out
   rw[List.drop_of_length_le q_o,Rul.idx] at HE
   subst HE
   clear HT hF2
   exact WR
theorem YA{σ:Type}(fn:FuncId)(caps:List D)(hcall:∀args w,(callFunc fn args).run Tryz.prog w=.ok (.enter fn args) w)(L:List Ac)(hl:L.length≤1000000)(F:σ→Ac→Bool×σ)(S:σ→St)
 (hF:∀a∈L,∀s,TrF Tryz.prog fn (.agg a.cells::caps) (S s) fun d st'=>d=.b (F s a).1∧st'=S (F s a).2)(s0:σ):TrF Tryz.prog 119 [.sl .shared (L.map Ac.cells),.fn (.func fn) [] caps] (S s0) fun d st'=>d=.b (Rul.anyS F s0 L).1∧st'=S (Rul.anyS F s0 L).2:=by
 have hI:=Ym fn caps hcall L hl F S hF s0
 obtain⟨e1,e2⟩:=Rul.idx_any F L s0 0
 have hle:=Rul.idx_le F L s0 0
 rw[←e1,←e2]
 clear e1 e2 hF
 generalize Rul.idx F s0 L 0=R at *
 obtain⟨R,s'⟩:=R
 generalize L.map Ac.cells=LS at *
 dsimp only at *
 replace hI:=Lib.hid hI
 by_cases hR:R≥0
 · rw[decide_eq_true hR]
   refine Qin [4] Tryz.func119 Tryz.results119 Tryz.ntmps119 ?_
   repeat' (first|refine QX ?_|(refine QB ?_;intro b)|(with_reducible refine QZ ?_<;>(try constructor)<;>intro hb<;>try intro hb1)|refine Qc Tryz.call153 hI.out ?_|fail)
   all_goals exact Ar
 · rw[decide_eq_false hR]
   refine Qin [4] Tryz.func119 Tryz.results119 Tryz.ntmps119 ?_
   repeat' (first|refine QX ?_|(refine QB ?_;intro b)|(with_reducible refine QZ ?_<;>(try constructor)<;>intro hb<;>try intro hb1)|refine Qc Tryz.call153 hI.out ?_|fail)
   all_goals exact Ar
theorem VV{σ:Type}(fn:FuncId)(caps:List D)(hcall:∀args w,(callFunc fn args).run Tryz.prog w=.ok (.enter fn args) w)(L:List Rl)(hl:L.length≤1000000)(F:σ→Rl→Bool×σ)(S:σ→St)
 (hF:∀a∈L,∀s,TrF Tryz.prog fn (.agg a.cells::caps) (S s) fun d st'=>d=.b (F s a).1∧st'=S (F s a).2)(s0:σ):TrF Tryz.prog 122 [.sl .shared (L.map Rl.cells),.fn (.func fn) [] caps] (S s0) fun d st'=>d=.i (Rul.idx F s0 L 0).1∧st'=S (Rul.idx F s0 L 0).2:=by
 obtain⟨R,hR⟩:∃R,Rul.idx F s0 L 0=R:=⟨_,rfl⟩
 rw[hR]
 have HF:Hid (Rul.idx F s0 (L.drop 0) 0=R):=hR
 have hm:(L.map Rl.cells).length=L.length:=List.length_map ..
 have hc:=hMp Rl.cells L
 have hF2:=Lib.hid hF
 clear hR hF
 generalize L.map Rl.cells=LS at *
 refine Qin [4] Tryz.func122 Tryz.results122 Tryz.ntmps122 ?_
 repeat' (first|refine QX ?_|(refine QB ?_;intro b)|(with_reducible refine QZ ?_<;>(try constructor)<;>intro hb<;>try intro hb1)|fail)
 refine Aj (ι:=Nat) (fun i A st'=>i≤L.length∧A.df=[]∧A.e 0=.sl .shared LS∧A.e 1=.fn (.func fn) [] caps∧A.e 7=.i L.length∧A.e 8=.i i∧∃s,Hid (Rul.idx F s (L.drop i) i=R)∧st'=S s) (fun i=>L.length - i) 0 ⟨Nat.zero_le _,Qf,Qf,Qf,Qf,Qf,s0,HF,rfl⟩ ?_
 clear HF
 rintro i A st' ⟨hi,hdf,e0,e1,e7,e8,s,HT,rfl⟩
 by_cases hlt:i<L.length
 · obtain⟨a,ha⟩:=gEx hlt
   have h1:=hc.out i a ha
   have hG:=hF2.out a (List.mem_of_getElem? ha) s
   have HE:=HT.out
   rw[Rul.idx_drop F ha] at HE
   clear HT ha hF2
   generalize F s a=q at *
   obtain⟨q,s'⟩:=q
   dsimp only at *
   unfold Rl.cells at h1 hG
   cases a with
   | mk nm sal pats acts =>
   dsimp only at h1 hG
   generalize pats.map Pt.cells=PS at *
   generalize acts.map Ac.cells=AS at *
   replace hG:=Lib.hid hG
   cases q with
   | true =>
    rw[if_pos rfl] at HE
    subst HE
    repeat' (first|refine QX ?_|(refine QB ?_;intro b)|(with_reducible refine QZ ?_<;>(try constructor)<;>intro hb<;>try intro hb1)|refine Qc hcall hG.out ?_|fail)
    all_goals exact Ar
   | false =>
    rw[if_neg Bool.false_ne_true] at HE
    replace HE:=Lib.hid HE
    repeat' (first|refine QX ?_|(refine QB ?_;intro b)|(with_reducible refine QZ ?_<;>(try constructor)<;>intro hb<;>try intro hb1)|refine Qc hcall hG.out ?_|fail)
    refine⟨i+1,S s',q_u,⟨hlt,?_,?_,?_,?_,?_,s',HE,rfl⟩,by omega⟩
    all_goals exact Qf
 · have HE:=HT.out
   rw[List.drop_of_length_le q_o,Rul.idx] at HE
   subst HE
   clear HT hF2
   exact WR
theorem Wn{σ:Type}(fn:FuncId)(caps:List D)(hcall:∀args w,(callFunc fn args).run Tryz.prog w=.ok (.enter fn args) w)(L:List Rl)(hl:L.length≤1000000)(F:σ→Rl→Bool×σ)(S:σ→St)
 (hF:∀a∈L,∀s,TrF Tryz.prog fn (.agg a.cells::caps) (S s) fun d st'=>d=.b (F s a).1∧st'=S (F s a).2)(s0:σ):TrF Tryz.prog 79 [.sl .shared (L.map Rl.cells),.fn (.func fn) [] caps] (S s0) fun d st'=>d=.b (Rul.anyS F s0 L).1∧st'=S (Rul.anyS F s0 L).2:=by
 have hI:=VV fn caps hcall L hl F S hF s0
 obtain⟨e1,e2⟩:=Rul.idx_any F L s0 0
 have hle:=Rul.idx_le F L s0 0
 rw[←e1,←e2]
 clear e1 e2 hF
 generalize Rul.idx F s0 L 0=R at *
 obtain⟨R,s'⟩:=R
 generalize L.map Rl.cells=LS at *
 dsimp only at *
 replace hI:=Lib.hid hI
 by_cases hR:R≥0
 · rw[decide_eq_true hR]
   refine Qin [4] Tryz.func79 Tryz.results79 Tryz.ntmps79 ?_
   repeat' (first|refine QX ?_|(refine QB ?_;intro b)|(with_reducible refine QZ ?_<;>(try constructor)<;>intro hb<;>try intro hb1)|refine Qc Tryz.call122 hI.out ?_|fail)
   all_goals exact Ar
 · rw[decide_eq_false hR]
   refine Qin [4] Tryz.func79 Tryz.results79 Tryz.ntmps79 ?_
   repeat' (first|refine QX ?_|(refine QB ?_;intro b)|(with_reducible refine QZ ?_<;>(try constructor)<;>intro hb<;>try intro hb1)|refine Qc Tryz.call122 hI.out ?_|fail)
   all_goals exact Ar
end
section
attribute [local push_cast] Ad Ae Ao V.cells_mk V.cells_len Nat.mul_one Int.sub_zero List.map_nil beq_self_eq_true List.head?_cons
def Sch.has (t k:Nat):Bool:=t / 2 ^ k % 2 == 1
structure VQ (v:V):Prop where
 ok:v.Ok
 nodes:v.nodes≤1000
 deep:v.deep≤1000
def fM (x:Vr)(st:St)(d:D)(st':St):Prop:=∃gs cS zS gc cC zC,VL cS zS cC zC x∧d=.agg [.ar gs 0 x.slots.length cS,.ar gc 0 x.cols.length cC]∧st'=.box gc 3 (AY x.cols++zC)::.box gs 184 (AH x.slots++zS)::st
def Sch.restV (s:Stp):Bool :=
 if s.kind=1 then decide (s.order.length=0) && (s.col == 0)
 else if s.kind=2 then bare s.slot false false && decide (s.order.length=0)
 else if s.kind=3 then bare s.slot true false && decide (s.order.length=0)
 else if s.kind=4 then bare s.slot false true && decide (s.order.length=0)
 else bare s.slot false false && (s.col == 0)
end
section
attribute [local push_cast] Ad Ae Ao V.cells_mk V.cells_len Nat.mul_one Int.sub_zero List.map_nil beq_self_eq_true bne_self_eq_false List.head?_cons
set_option maxHeartbeats 16000000
theorem zero_ok:V.zero.Ok:=.mk q_o q_o (Nat.zero_le _) (Nat.zero_le _) fun x h=>by cases h
theorem IZ:V.zero.cells=[.i 0,.i 0,.str ⟨#[]⟩,.sl .shared []]:=by unfold V.zero;rw[V.cells_mk];rfl
theorem Sr(L:List Tm)(hL:∀t∈L,TOk t)(hl:L.length≤1000000)(nm:ByteArray)(sal:Int)(PS AS:List (List D))(r:Nat)(p:Pt)(t:Ts)(ht:VQ t.val)(B:List Int)(st:St):TrF Tryz.prog 152 [.ip [.sl .shared (L.map Tm.cells),.str nm,.i sal,.sl .shared PS,.sl .shared AS,.mp r],.agg p.cells,.agg t.cells] (BW r B::st) fun d st'=>d=.b (Rul.testB (Rul.slots L p.tmpl).length p.neg B t)∧st'=BW r (if Rul.testB (Rul.slots L p.tmpl).length p.neg B t=true then Rul.testN B t else B)::st:=by
 have hS:=Fd L hL hl p.tmpl
 have hm:((Rul.slots L p.tmpl).map Sl.cells).length=(Rul.slots L p.tmpl).length:=List.length_map ..
 have hV:=GO t.val V.zero ht.ok.bg zero_ok.bg
 have hR:=Kz t.val (by have:=ht.nodes;omega)
 rw[IZ] at hV
 generalize (Rul.slots L p.tmpl).map Sl.cells=SS at *
 generalize (Rul.slots L p.tmpl).length=ns at *
 generalize L.map Tm.cells=LS at *
 clear hL ht hl
 cases p with
|mk tmpl neg tests =>
 cases t with
|mk kind slot var val =>
 unfold Pt.cells
 dsimp only at *
 generalize tests.map Ts.cells=TS at *
 have eT:Rul.testB ns neg B ⟨kind,slot,var,val⟩=((decide (0≤slot) && decide (slot<ns)) && (if kind=1∨kind=2∨kind=3∨kind=4 then(var == 0) && val.right
  else if kind=5 then(val.cmp V.zero == 0) && ((decide (0≤var) && decide (var<8)) && (!neg && decide (var∉B)))
  else if kind=6∨kind=7∨kind=8∨kind=9 then(val.cmp V.zero == 0) && ((decide (0≤var) && decide (var<8)) && decide (var∈B)) else false)):=rfl
 have eN:Rul.testN B ⟨kind,slot,var,val⟩=if kind=5 then B++[var] else B:=rfl
 rw[eT,eN]
 clear eT eN
 generalize (val.cmp V.zero == 0)=qv at *
 generalize val.right=qr at *
 have hnot:decide (var∉B)=!decide (var∈B):=by simp
 have hins:decide (var∈B)=false→MC B var=B++[var]:=fun h=>if_neg (of_decide_eq_false h)
 rw[hnot]
 clear hnot
 generalize hqb:decide (var∈B)=qb at *
 cases val with
|mk k1 n1 s1 l1 =>
 rw[Ts.cells_mk]
 rw[V.cells_mk] at hV hR
 generalize l1.map V.cells=VL at *
 replace hS:=Lib.hid hS
 replace hV:=Lib.hid hV
 replace hR:=Lib.hid hR
 replace hins:=Lib.hid hins
 by_cases hs0:slot<0
 · rw[decide_eq_false (show¬0≤slot by omega),Bool.false_and,Bool.false_and,if_neg Bool.false_ne_true]
   refine Qin [6] Tryz.func152 Tryz.results152 Tryz.ntmps152 ?_
   repeat' (first|refine QX ?_|(refine QB ?_;intro b)|(with_reducible refine QZ ?_<;>(try constructor)<;>intro hb<;>try intro hb1)|refine QL Tryz.call126 (hV.out _) ?_|fail)
   all_goals exact Ar
 by_cases hs1:(ns:Int)≤slot
 · rw[decide_eq_false (show¬slot<ns by omega),Bool.and_false,Bool.false_and,if_neg Bool.false_ne_true]
   refine Qin [6] Tryz.func152 Tryz.results152 Tryz.ntmps152 ?_
   repeat' (first|refine QX ?_|(refine QB ?_;intro b)|(with_reducible refine QZ ?_<;>(try constructor)<;>intro hb<;>try intro hb1)|refine QL Tryz.call126 (hV.out _) ?_|fail)
   all_goals exact Ar
 rw[decide_eq_true (show 0≤slot by omega),decide_eq_true (show slot<ns by omega),Bool.true_and,Bool.true_and]
 by_cases k14:kind=1∨kind=2∨kind=3∨kind=4
 · rw[if_pos k14,if_neg (show¬kind=5 by omega),ite_self]
   by_cases hv:var=0
   · rw[beq_iff_eq.2 hv,Bool.true_and]
     rcases k14 with rfl|rfl|rfl|rfl
     all_goals(
      refine Qin [6] Tryz.func152 Tryz.results152 Tryz.ntmps152 ?_
      repeat' (first|refine QX ?_|(refine QB ?_;intro b)|(with_reducible refine QZ ?_<;>(try constructor)<;>intro hb<;>try intro hb1)|refine QL Tryz.call126 (hV.out _) ?_|fail)
      all_goals exact Ar)
   · rw[beq_eq_false_iff_ne.2 hv,Bool.false_and]
     have hv2:(var == 0)=false:=beq_eq_false_iff_ne.2 hv
     rcases k14 with rfl|rfl|rfl|rfl
     all_goals(
      refine Qin [6] Tryz.func152 Tryz.results152 Tryz.ntmps152 ?_
      repeat' (first|refine QX ?_|(refine QB ?_;intro b)|(with_reducible refine QZ ?_<;>(try constructor)<;>intro hb<;>try intro hb1)|refine QL Tryz.call126 (hV.out _) ?_|fail)
      all_goals exact Ar)
 rw[if_neg k14]
 by_cases hk0:kind<1
 · rw[if_neg q_o,if_neg q_o,if_neg Bool.false_ne_true]
   have b1:(kind == 1)=false:=beq_eq_false_iff_ne.2 q_o
   have b2:(kind == 2)=false:=beq_eq_false_iff_ne.2 q_o
   have b3:(kind == 3)=false:=beq_eq_false_iff_ne.2 q_o
   have b4:(kind == 4)=false:=beq_eq_false_iff_ne.2 q_o
   have b5:(kind == 5)=false:=beq_eq_false_iff_ne.2 q_o
   have b6:(kind == 6)=false:=beq_eq_false_iff_ne.2 q_o
   have b7:(kind == 7)=false:=beq_eq_false_iff_ne.2 q_o
   have b8:(kind == 8)=false:=beq_eq_false_iff_ne.2 q_o
   have b9:(kind == 9)=false:=beq_eq_false_iff_ne.2 q_o
   refine Qin [6] Tryz.func152 Tryz.results152 Tryz.ntmps152 ?_
   repeat' (first|refine QX ?_|(refine QB ?_;intro b)|(with_reducible refine QZ ?_<;>(try constructor)<;>intro hb<;>try intro hb1)|refine QL Tryz.call126 (hV.out _) ?_|fail)
   all_goals exact Ar
 have hbad:qv=false∨var<0∨8≤var∨(qv=true∧0≤var∧var<8):=by
  cases qv
  · exact .inl rfl
  · rcases Int.lt_or_le var 0 with h|h
    · exact .inr (.inl h)
    · rcases Int.lt_or_le var 8 with h'|h'
      · exact .inr (.inr (.inr ⟨rfl,h,h'⟩))
      · exact .inr (.inr (.inl h'))
 have hno:(qv=false∨var<0∨8≤var)→∀q:Bool,(qv && ((decide (0≤var) && decide (var<8)) && q))=false:=fun h q=>by
  rcases h with h|h|h
  · rw[h];rfl
  · rw[decide_eq_false (show¬0≤var by omega)];simp
  · rw[decide_eq_false (show¬var<8 by omega)];simp
 rcases hbad with hb|hb|hb|⟨hq,hv0,hv8⟩
 · rw[hno (.inl hb),hno (.inl hb),ite_self,ite_self,if_neg Bool.false_ne_true]
   clear hno
   try subst hb
   have g5:¬kind<5:=by omega
   refine Qin [6] Tryz.func152 Tryz.results152 Tryz.ntmps152 ?_
   repeat' (first|refine QX ?_|(refine QB ?_;intro b)|(with_reducible refine QZ ?_<;>(try constructor)<;>intro hb<;>try intro hb1)|refine QL Tryz.call126 (hV.out _) ?_|fail)
   all_goals exact Ar
 · rw[hno (.inr (.inl hb)),hno (.inr (.inl hb)),ite_self,ite_self,if_neg Bool.false_ne_true]
   clear hno
   try subst hb
   have g5:¬kind<5:=by omega
   refine Qin [6] Tryz.func152 Tryz.results152 Tryz.ntmps152 ?_
   repeat' (first|refine QX ?_|(refine QB ?_;intro b)|(with_reducible refine QZ ?_<;>(try constructor)<;>intro hb<;>try intro hb1)|refine QL Tryz.call126 (hV.out _) ?_|fail)
   all_goals exact Ar
 · rw[hno (.inr (.inr hb)),hno (.inr (.inr hb)),ite_self,ite_self,if_neg Bool.false_ne_true]
   clear hno
   try subst hb
   have g5:¬kind<5:=by omega
   refine Qin [6] Tryz.func152 Tryz.results152 Tryz.ntmps152 ?_
   repeat' (first|refine QX ?_|(refine QB ?_;intro b)|(with_reducible refine QZ ?_<;>(try constructor)<;>intro hb<;>try intro hb1)|refine QL Tryz.call126 (hV.out _) ?_|fail)
   all_goals exact Ar
 clear hno
 subst hq
 rw[decide_eq_true hv0,decide_eq_true hv8,Bool.true_and,Bool.true_and,Bool.true_and,Bool.true_and]
 by_cases k5:kind=5
 · subst k5
   rw[if_pos rfl,if_pos rfl]
   cases neg with
   | true =>
    rw[Bool.not_true,Bool.false_and,if_neg Bool.false_ne_true]
    refine Qin [6] Tryz.func152 Tryz.results152 Tryz.ntmps152 ?_
    repeat' (first|refine QX ?_|(refine QB ?_;intro b)|(with_reducible refine QZ ?_<;>(try constructor)<;>intro hb<;>try intro hb1)|refine QL Tryz.call126 (hV.out _) ?_|fail)
    all_goals exact Ar
   | false =>
    rw[Bool.not_false,Bool.true_and]
    cases qb with
    | true =>
     rw[Bool.not_true,if_neg Bool.false_ne_true]
     refine Qin [6] Tryz.func152 Tryz.results152 Tryz.ntmps152 ?_
     repeat' (first|refine QX ?_|(refine QB ?_;intro b)|(with_reducible refine QZ ?_<;>(try constructor)<;>intro hb<;>try intro hb1)|refine QL Tryz.call126 (hV.out _) ?_|fail)
     all_goals exact Ar
    | false =>
     rw[Bool.not_false,if_pos rfl]
     have hi:=hins.out rfl
     have hmem:decide (var∈MC B var)=true:=by rw[hi];simp
     rw[←hi]
     clear hi hins
     refine Qin [6] Tryz.func152 Tryz.results152 Tryz.ntmps152 ?_
     repeat' (first|refine QX ?_|(refine QB ?_;intro b)|(with_reducible refine QZ ?_<;>(try constructor)<;>intro hb<;>try intro hb1)|refine QL Tryz.call126 (hV.out _) ?_|fail)
     all_goals exact Ar
 rw[if_neg k5,if_neg k5,ite_self]
 by_cases k69:kind=6∨kind=7∨kind=8∨kind=9
 · rw[if_pos k69]
   rcases k69 with rfl|rfl|rfl|rfl
   all_goals(
    refine Qin [6] Tryz.func152 Tryz.results152 Tryz.ntmps152 ?_
    repeat' (first|refine QX ?_|(refine QB ?_;intro b)|(with_reducible refine QZ ?_<;>(try constructor)<;>intro hb<;>try intro hb1)|refine QL Tryz.call126 (hV.out _) ?_|fail)
    all_goals exact Ar)
 rw[if_neg k69]
 have b5:(kind == 5)=false:=beq_eq_false_iff_ne.2 k5
 have b1:(kind == 1)=false:=beq_eq_false_iff_ne.2 q_o
 have b2:(kind == 2)=false:=beq_eq_false_iff_ne.2 q_o
 have b3:(kind == 3)=false:=beq_eq_false_iff_ne.2 q_o
 have b4:(kind == 4)=false:=beq_eq_false_iff_ne.2 q_o
 have b6:(kind == 6)=false:=beq_eq_false_iff_ne.2 q_o
 have b7:(kind == 7)=false:=beq_eq_false_iff_ne.2 q_o
 have b8:(kind == 8)=false:=beq_eq_false_iff_ne.2 q_o
 have b9:(kind == 9)=false:=beq_eq_false_iff_ne.2 q_o
 refine Qin [6] Tryz.func152 Tryz.results152 Tryz.ntmps152 ?_
 repeat' (first|refine QX ?_|(refine QB ?_;intro b)|(with_reducible refine QZ ?_<;>(try constructor)<;>intro hb<;>try intro hb1)|refine QL Tryz.call126 (hV.out _) ?_|fail)
 all_goals exact Ar
end
section
attribute [local push_cast] Ad Ae Ao V.cells_mk V.cells_len Nat.mul_one Int.sub_zero List.map_nil beq_self_eq_true bne_self_eq_false List.head?_cons
abbrev Ee (LS:List (List D))(nm:ByteArray)(sal:Int)(PS AS:List (List D))(r:Nat):List D:=[.sl .shared LS,.str nm,.i sal,.sl .shared PS,.sl .shared AS,.mp r]
namespace Rul
def testS (ns:Int)(neg:Bool)(B:List Int)(t:Ts):Bool×List Int:=(!testB ns neg B t,if testB ns neg B t=true then testN B t else B)
theorem anyS_tests(ns:Int)(neg:Bool):∀(l:List Ts) (B:List Int),anyS (testS ns neg) B l=(!(testsF ns neg l B).1,(testsF ns neg l B).2)
|[],B=>rfl
|t::l,B=>by
  rw[anyS,testsF]
  unfold testS
  cases h:testB ns neg B t with
  | true =>
   dsimp only
   rw[if_neg (by decide),if_pos rfl,if_pos rfl]
   exact anyS_tests ns neg l _
  | false=>rfl
def patS (L:List Tm)(B:List Int)(p:Pt):Bool×List Int:=(!(patF L B p).1,(patF L B p).2)
theorem anyS_pats(L:List Tm):∀(l:List Pt) (B:List Int),anyS (patS L) B l=(!(patsF L l B).1,(patsF L l B).2)
|[],B=>rfl
|p::l,B=>by
  rw[anyS,patsF]
  unfold patS
  cases h:(patF L B p).1 with
  | true =>
   dsimp only
   rw[if_neg (by decide),if_pos rfl]
   exact anyS_pats L l _
  | false=>rfl
end Rul
theorem Ss(L:List Tm)(hL:∀t∈L,TOk t)(hl:L.length≤1000000)(nm:ByteArray)(sal:Int)(PS AS:List (List D))(r:Nat)(p:Pt)(t:Ts)(ht:VQ t.val)(B:List Int)(st:St):TrF Tryz.prog 151 [.agg t.cells,.ip [.ip (Ee (L.map Tm.cells) nm sal PS AS r)],.ip p.cells] (BW r B::st) fun d st'=>d=.b (Rul.testS (Rul.slots L p.tmpl).length p.neg B t).1∧st'=BW r (Rul.testS (Rul.slots L p.tmpl).length p.neg B t).2::st:=by
 have hT:=Sr L hL hl nm sal PS AS r p t ht B st
 unfold Rul.testS
 dsimp only
 generalize (if Rul.testB _ _ _ _=true then Rul.testN B t else B)=B2 at *
 generalize Rul.testB _ _ _ _=q at *
 generalize L.map Tm.cells=LS at *
 cases p with
|mk tmpl neg tests =>
 cases t with
|mk kind slot var val =>
 cases val with
|mk k1 n1 s1 l1 =>
 unfold Pt.cells at *
 rw[Ts.cells_mk] at *
 dsimp only at *
 generalize tests.map Ts.cells=TS at *
 replace hT:=Lib.hid hT
 refine Qin [4] Tryz.func151 Tryz.results151 Tryz.ntmps151 ?_
 repeat' (first|refine QX ?_|(refine QB ?_;intro b)|(with_reducible refine QZ ?_<;>(try constructor)<;>intro hb<;>try intro hb1)|refine Qc Tryz.call152 hT.out ?_|fail)
 all_goals exact Ar
theorem UP(L:List Tm)(hL:∀t∈L,TOk t)(hl:L.length≤1000000)(nm:ByteArray)(sal:Int)(PS AS:List (List D))(r:Nat)(p:Pt)(ht:∀t∈p.tests,VQ t.val)(htl:p.tests.length≤1000000)(B:List Int)(st:St):TrF Tryz.prog 118 [.ip (Ee (L.map Tm.cells) nm sal PS AS r),.agg p.cells] (BW r B::st) fun d st'=>d=.b (Rul.patF L B p).1∧st'=BW r (Rul.patF L B p).2::st:=by
 have hC:=Wm 151 [.ip [.ip (Ee (L.map Tm.cells) nm sal PS AS r)],.ip p.cells] Tryz.call151 p.tests htl (Rul.testS (Rul.slots L p.tmpl).length p.neg) (fun B=>BW r B::st) (fun t h B=>Ss L hL hl nm sal PS AS r p t (ht t h) B st) B
 rw[Rul.anyS_tests] at hC
 unfold Rul.patF
 have hm:(L.map Tm.cells).length=L.length:=List.length_map ..
 have hm2:(p.tests.map Ts.cells).length=p.tests.length:=List.length_map ..
 dsimp only at hC
 generalize Rul.testsF _ _ _ _=q at *
 obtain⟨q,B2⟩:=q
 dsimp only at *
 generalize L.map Tm.cells=LS at *
 clear ht hL
 cases p with
|mk tmpl neg tests =>
 unfold Pt.cells at *
 dsimp only at *
 generalize tests.map Ts.cells=TS at *
 replace hC:=Lib.hid hC
 by_cases h1:tmpl<0
 · rw[if_neg q_o]
   refine Qin [4] Tryz.func118 Tryz.results118 Tryz.ntmps118 ?_
   exact WR
 by_cases h2:(L.length:Int)≤tmpl
 · rw[if_neg q_o]
   refine Qin [4] Tryz.func118 Tryz.results118 Tryz.ntmps118 ?_
   exact WR
 by_cases h3:6<(tests.length:Int)
 · rw[if_neg q_o]
   refine Qin [4] Tryz.func118 Tryz.results118 Tryz.ntmps118 ?_
   exact WR
 rw[if_pos q_o]
 cases q
 all_goals(
  refine Qin [4] Tryz.func118 Tryz.results118 Tryz.ntmps118 ?_
  repeat' (first|refine QX ?_|(refine QB ?_;intro b)|(with_reducible refine QZ ?_<;>(try constructor)<;>intro hb<;>try intro hb1)|refine Qc Tryz.call150 hC.out ?_|fail)
  all_goals exact Ar)
theorem Sv(L:List Tm)(hL:∀t∈L,TOk t)(hl:L.length≤1000000)(nm:ByteArray)(sal:Int)(PS AS:List (List D))(r b:Nat)(p:Pt)(ht:∀t∈p.tests,VQ t.val)(htl:p.tests.length≤1000000)(B:List Int)(st:St):TrF Tryz.prog 117 [.agg p.cells,.ptr b 0] (.box b 189 [.ip (Ee (L.map Tm.cells) nm sal PS AS r)]::BW r B::st) fun d st'=>d=.b (Rul.patS L B p).1∧st'=.box b 189 [.ip (Ee (L.map Tm.cells) nm sal PS AS r)]::BW r (Rul.patS L B p).2::st:=by
 have hP:=UP L hL hl nm sal PS AS r p ht htl B
 unfold Rul.patS
 generalize Rul.patF L B p=q at *
 obtain⟨q,B2⟩:=q
 dsimp only at *
 generalize L.map Tm.cells=LS at *
 clear ht hL htl
 cases p with
|mk tmpl neg tests =>
 unfold Pt.cells at *
 dsimp only at *
 generalize tests.map Ts.cells=TS at *
 replace hP:=Lib.hid hP
 cases q
 all_goals(
  refine Qin [3] Tryz.func117 Tryz.results117 Tryz.ntmps117 ?_
  exact WR)
theorem KT(LS:List (List D))(nm:ByteArray)(sal:Int)(PS AS:List (List D))(r:Nat)(e:Ex)(s:Sl)(he:VQ e.val)(B:List Int)(st:St):TrF Tryz.prog 154 [.ip (Ee LS nm sal PS AS r),.agg e.cells,.agg s.cells] (BW r B::st) fun d st'=>d=.b (Rul.exprB B e s)∧st'=BW r B::st:=by
 have hV:=GO e.val V.zero he.ok.bg zero_ok.bg
 have hF:=Nl s.name s.types s.req s.dv e.val (by have:=he.nodes;omega)
 rw[IZ] at hV
 cases e with
|mk iv var val =>
 cases s with
|mk sn sty srq sdv =>
 unfold Rul.exprB
 dsimp only at *
 generalize (val.cmp V.zero == 0)=qv at *
 generalize Sch.fits _ val=qf at *
 generalize hqb:decide (var∈B)=qb at *
 clear he
 cases val with
|mk k1 n1 s1 l1 =>
 cases sdv with
|mk k2 n2 s2 l2 =>
 rw[Ex.cells_mk]
 rw[Sl.cells_mk] at *
 rw[V.cells_mk] at hV hF
 generalize l1.map V.cells=VL at *
 generalize l2.map V.cells=VL2 at *
 replace hV:=Lib.hid hV
 replace hF:=Lib.hid hF
 cases iv with
|true =>
  rw[if_pos rfl]
  cases qb
  all_goals(
   refine Qin [6] Tryz.func154 Tryz.results154 Tryz.ntmps154 ?_
   repeat' (first|refine QX ?_|(refine QB ?_;intro b)|(with_reducible refine QZ ?_<;>(try constructor)<;>intro hb<;>try intro hb1)|refine QL Tryz.call126 (hV.out _) ?_|fail)
   all_goals exact Ar)
|false =>
  rw[if_neg Bool.false_ne_true]
  by_cases hv:var=0
  · rw[beq_iff_eq.2 hv,Bool.true_and]
    refine Qin [6] Tryz.func154 Tryz.results154 Tryz.ntmps154 ?_
    exact WR
  · have hv2:(var == 0)=false:=beq_eq_false_iff_ne.2 hv
    rw[hv2,Bool.false_and]
    refine Qin [6] Tryz.func154 Tryz.results154 Tryz.ntmps154 ?_
    exact WR
theorem UO(LS:List (List D))(nm:ByteArray)(sal:Int)(ps:List Pt)(AS:List (List D))(r:Nat)(k:Int)(st:St):TrF Tryz.prog 155 [.ip (Ee LS nm sal (ps.map Pt.cells) AS r),.i k] st fun d st'=>d=.b (Rul.posB ps k)∧st'=st:=by
 have hm:(ps.map Pt.cells).length=ps.length:=List.length_map ..
 unfold Rul.posB
 by_cases h0:k<0
 · rw[decide_eq_false (show¬0≤k by omega),Bool.false_and,Bool.false_and]
   generalize ps.map Pt.cells=PS at *
   refine Qin [4] Tryz.func155 Tryz.results155 Tryz.ntmps155 ?_
   exact WR
 by_cases h1:(ps.length:Int)≤k
 · rw[decide_eq_false (show¬k<ps.length by omega),Bool.and_false,Bool.false_and]
   generalize ps.map Pt.cells=PS at *
   refine Qin [4] Tryz.func155 Tryz.results155 Tryz.ntmps155 ?_
   exact WR
 rw[decide_eq_true (show 0≤k by omega),decide_eq_true (show k<ps.length by omega),Bool.true_and,Bool.true_and]
 obtain⟨n,rfl⟩:∃n:Nat,(n:Int)=k:=⟨k.toNat,Int.toNat_of_nonneg q_o⟩
 obtain⟨p,hp⟩:=gEx (l:=ps) (i:=n) q_o
 have hc:(ps.map Pt.cells)[n]?=some p.cells:=by rw[List.getElem?_map,hp];rfl
 rw[Int.toNat_natCast,hp,Option.any_some]
 clear hp
 generalize ps.map Pt.cells=PS at *
 cases p with
|mk tmpl neg tests =>
 unfold Pt.cells at *
 dsimp only at *
 generalize tests.map Ts.cells=TS at *
 refine Qin [4] Tryz.func155 Tryz.results155 Tryz.ntmps155 ?_
 exact WR
end
end Go.Proofs.YtoeidpmjifjplaaGreat
