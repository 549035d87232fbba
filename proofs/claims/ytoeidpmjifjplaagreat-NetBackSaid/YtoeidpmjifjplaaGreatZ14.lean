/- Texts put together. No statement is proved here. -/
import Derived.Test.YtoeidpmjifjplaaGreatZ13
set_option linter.all false
set_option maxRecDepth 10000
set_option maxHeartbeats 8000000
namespace Go.Proofs.YtoeidpmjifjplaaGreat
open Go.RowKit
section
section
variable {P:Program} {N:Nat} {r:Option Nat} {A:AA} {st:St} {Q:Exit→AA→St→Prop}
end
theorem Ud{L:List Fc}{f:Fc}(hs:Uk L)(hnd:(L.map Fc.id).Nodup)(hf:f.id∉L.map Fc.id):WB (GJ f L) f.id=L:=by
 refine Nf (K:=L) hnd ?_ ((JL f hs).filter _) (.refl _) hs
 refine((DD f L).filter _).trans ?_
 rw[List.filter_cons_of_neg (by simp)]
 exact List.Perm.of_eq (List.filter_eq_self.2 fun g hg=>by
  have:g.id≠f.id:=fun e=>hf (List.mem_map.2 ⟨g,hg,e⟩)
  simpa using this)
theorem NetL.new{N:NT}{R:List Rl}(h:N.Ok R)(hf:N.fs=[]):NetL N R []:=⟨h,by rw[hf],List.Pairwise.nil⟩
theorem Hc{R:List Rl}{F:List Fc}(hr:R.length≤8)(hp:∀x∈R,x.pats.length≤4)(hf:F.length≤9):(Mat.raws R F).length≤1000000:=by
 have h1:∀(l:List Rl) (i:Int),(∀x∈l,x.pats.length≤4)→(Mat.flatR (fun x=>(Mat.mats x F).map Prod.fst) l i).length≤l.length*10000:=by
  intro l
  induction l with
  | nil=>exact fun _ _=>Nat.zero_le _
  | cons x l ih =>
   intro i hl
   rw[Mat.flatR,List.length_append,List.length_map,List.length_map,List.length_cons,Nat.succ_mul]
   have a:=ih (i+1) fun y hy=>hl y (List.mem_cons_of_mem _ hy)
   have b:(Mat.mats x F).length≤(F.length+1) ^ x.pats.length:=Mat.from_length F x.pats [] Mat.empty
   have c:(F.length+1) ^ x.pats.length≤10 ^ 4:=Nat.le_trans (Nat.pow_le_pow_left q_o _) (Nat.pow_le_pow_right (by decide) (hl x (List.mem_cons_self ..)))
   have d:(10:Nat) ^ 4=10000:=by decide
   omega
 have:=h1 R 0 hp
 unfold Mat.raws
 omega
theorem VX{R:List Rl}{F:List Fc}(hp:∀x∈R,x.pats.length≤4):∀m∈Mat.sortM (Mat.raws R F),m.ids.length≤1000000:=fun m h=>by
 obtain⟨k,x,e,h1, -, -, -,h2⟩:=Mat.once h
 have:=hp x (List.mem_of_getElem? h1)
 omega
theorem Pa{R:List Rl}{F:List Fc}(hr:R.length≤8)(hp:∀x∈R,x.pats.length≤4)(hf:F.length≤9)(st:St):TrF Tryz.prog 22 [.sl .shared ((Mat.sortM (Mat.raws R F)).map Mt.cells),.sl .shared ((Mat.sortM (Mat.raws R F)).map Mt.cells)] st fun d st'=>d=.b true∧st'=st:=by
 have:=Pg (Mat.sortM (Mat.raws R F)) (Mat.sortM (Mat.raws R F)) (VX hp) (VX hp) (by rw[(Mat.sortM_srt (Mat.raws R F)).2.length_eq];exact Hc hr hp hf) st
 rwa[Mat.same_self] at this
structure RK9 (R:List Rl):Prop where
 rl:R.length≤8
 rk:∀x∈R,XK x∧1≤x.pats.length∧x.pats.length≤4
theorem RK9.p4{R:List Rl}(h:RK9 R):∀x∈R,x.pats.length≤4:=fun x hx=>(h.rk x hx).2.2
theorem RK9.p14{R:List Rl}(h:RK9 R):∀x∈R,1≤x.pats.length∧x.pats.length≤4:=fun x hx=>(h.rk x hx).2
theorem RK9.tok{R:List Rl}(h:RK9 R){F:List Fc}(hf:F.length≤9):DX F R≤1000000000:=by
 have:=Qy hf R h.p4
 have:=h.rl
 omega
theorem Mat.May19.rk{R:List Rl}{A:List Ak}(h:Mat.May19 R A):RK9 R:=⟨h.rl,fun x hx=>⟨h.xk x hx,h.rn x hx⟩⟩
end
section
attribute [local push_cast] Ad Ae Ao V.cells_mk V.cells_len Nat.mul_one Int.sub_zero List.map_nil beq_self_eq_true bne_self_eq_false List.head?_cons Bool.not_true Bool.not_false Nat.zero_add
section
set_option maxHeartbeats 16000000
abbrev w0:V:=.mk 0 0 ⟨#[]⟩ []
abbrev wI (n:Int):V:=.mk 2 n ⟨#[]⟩ []
abbrev aR:Rl:=⟨⟨#[114]⟩,0,[⟨0,false,[⟨5,0,0,w0⟩]⟩,⟨0,false,[]⟩],[]⟩
abbrev aF:List Fc:=[⟨1,0,0,0,[wI 5]⟩,⟨2,0,0,0,[wI 6]⟩]
theorem Zv(k n:Int)(h:(0≤k∧k≤9)∧0≤n∧n≤9):(V.mk k n ⟨#[]⟩ []).Ok:=.mk q_o q_o (Nat.zero_le _) (Nat.zero_le _) (fun x h=>by cases h)
end
end
section
attribute [local push_cast] Ad Ae Ao V.cells_mk V.cells_len Nat.mul_one Int.sub_zero List.map_nil beq_self_eq_true bne_self_eq_false List.head?_cons Bool.not_true Bool.not_false Nat.zero_add
set_option maxHeartbeats 16000000
attribute [-instance] AV
abbrev nR:Rl:=⟨⟨#[114]⟩,0,[⟨0,false,[⟨5,0,0,w0⟩]⟩,⟨0,true,[⟨9,0,0,w0⟩]⟩],[]⟩
abbrev nF (k:Int):Fc:=⟨k,0,0,0,[wI k]⟩
theorem VH:nR.cells=[.str ⟨#[114]⟩,.i 0,.sl .shared [[.i 0,.b false,.sl .shared [[.i 5,.i 0,.i 0,.i 0,.i 0,.str ⟨#[]⟩,.sl .shared []]]],[.i 0,.b true,.sl .shared [[.i 9,.i 0,.i 0,.i 0,.i 0,.str ⟨#[]⟩,.sl .shared []]]]],.sl .shared []]:=by
 simp only[Rl.cells,Pt.cells,Ac.cells,List.map_cons,List.map_nil,Ts.cells_mk,Ex.cells_mk]
theorem JE(k:Int):(nF k).cells=[.i k,.i 0,.i 0,.i 0,.sl .shared [[.i 2,.i k,.str ⟨#[]⟩,.sl .shared []]]]:=by
 simp only[Fc.cells,List.map_cons,List.map_nil,V.cells_mk]
theorem nR_rk:RK9 [nR]:=⟨by decide,fun x hx=>by
 rw[List.mem_singleton.1 hx]
 refine⟨⟨fun p hp=>?_,by decide⟩,by decide,by decide⟩
 simp only[List.mem_cons,List.not_mem_nil,or_false] at hp
 rcases hp with rfl|rfl
 · exact⟨fun t ht=>by rw[List.mem_singleton.1 ht];exact(Zv 0 0 (by decide)).bg,by decide⟩
 · exact⟨fun t ht=>by rw[List.mem_singleton.1 ht];exact(Zv 0 0 (by decide)).bg,by decide⟩⟩
theorem VJ(k:Int)(h:1≤k∧k≤9):FK (nF k):=⟨fun x hx=>by
 rw[List.mem_singleton.1 hx]
 exact⟨Zv 2 k q_o,Nat.le_of_ble_eq_true rfl⟩,Nat.le_of_ble_eq_true rfl⟩
theorem RD(k:Int)(hk:1≤k∧k≤9)(st:St):TrF Tryz.prog 62 [.i k] st fun d st'=>d=.agg (nF k).cells∧st'=st:=by
 have hI:=XG k
 rw[JE]
 simp only[V.cells_mk,List.map_nil] at hI
 replace hI:=Lib.hid hI
 refine YY 2 43 Tryz.func62 Tryz.ntmps62 ?_
 repeat' (first|refine QX ?_|(refine QB ?_;intro b)|(with_reducible refine QZ ?_<;>(try constructor)<;>intro hb<;>try intro hb1)|refine Qc Tryz.call44 ((hI.out _)) ?_|(with_reducible refine Bl ?_)|fail)
 all_goals exact ON
theorem a1:MS [] (nF 1)=[nF 1]:=by kernel_rfl
theorem a2:MS [nF 1] (nF 2)=[nF 1,nF 2]:=by kernel_rfl
theorem a3:MS [nF 1,nF 2] (nF 2)=[nF 1,nF 2]:=by kernel_rfl
theorem a4:WB [nF 1,nF 2] 2=[nF 1]:=by kernel_rfl
theorem m2:(Mat.sortM (Mat.raws [nR] [nF 1,nF 2])).map Mt.cells=[[.i 0,.sl .shared [[.i 2]]]]:=by kernel_rfl
theorem m1:(Mat.sortM (Mat.raws [nR] [nF 1])).map Mt.cells=[[.i 0,.sl .shared [[.i 1]]]]:=by kernel_rfl
theorem t2:DX [nF 1,nF 2] [nR]=3:=by kernel_rfl
theorem e1:PO [nR] [nF 1] ⟨0,[1]⟩=some [wI 1,w0,w0,w0,w0,w0,w0,w0]:=by kernel_rfl
theorem WA(st:St):TrF Tryz.prog 30 [] st fun d st'=>d=.b true∧st'=st:=by
 have hR1:[nR].length≤1000:=by decide
 have hNew:Hid (∀(o:Own) (st:St),TrF Tryz.prog 32 [.sl o [[.str ⟨#[114]⟩,.i 0,.sl .shared [[.i 0,.b false,.sl .shared [[.i 5,.i 0,.i 0,.i 0,.i 0,.str ⟨#[]⟩,.sl .shared []]]],[.i 0,.b true,.sl .shared [[.i 9,.i 0,.i 0,.i 0,.i 0,.str ⟨#[]⟩,.sl .shared []]]]],.sl .shared []]]] st fun d st'=>∃N:NT,NetL N [nR] []∧d=.ptr N.b 0∧(N.st++st).Perm st'):=fun o st=>by
  have h:=Ra [nR] nR_rk.rk hR1 st
  rw[List.map_cons,List.map_nil,VH] at h
  exact(TrF.le h (LEL.cons (LE.sl o _) LEL.nil)).mono fun d st' ⟨N,h1,h2,h3,h4⟩=>⟨N,.new h1 h2,h3,h4⟩
 have hO1:=Lib.hid (RD 1 (by decide))
 have hO2:=Lib.hid (RD 2 (by decide))
 have hA1:Hid (∀(nb:Nat) (N:NT),N.b=nb→NetL N [nR] []→∀st,TrF Tryz.prog 33 [.ptr nb 0,.agg (nF 1).cells] (N.st++st) fun d st'=>∃N':NT,NetL N' [nR] [nF 1]∧N'.b=nb∧d=.b true∧(N'.st++st).Perm st'):=fun nb N e h st=>by
  have:=h.assert (nF 1) hR1 (VJ 1 (by decide)) (by decide) (by decide) st
  rw[a1,e] at this
  exact this
 have hA2:Hid (∀(nb:Nat) (N:NT),N.b=nb→NetL N [nR] [nF 1]→∀st,TrF Tryz.prog 33 [.ptr nb 0,.agg (nF 2).cells] (N.st++st) fun d st'=>∃N':NT,NetL N' [nR] [nF 1,nF 2]∧N'.b=nb∧d=.b true∧(N'.st++st).Perm st'):=fun nb N e h st=>by
  have:=h.assert (nF 2) hR1 (VJ 2 (by decide)) (by decide) (by decide) st
  rw[a2,e] at this
  exact this
 have hA3:Hid (∀(nb:Nat) (N:NT),N.b=nb→NetL N [nR] [nF 1,nF 2]→∀st,TrF Tryz.prog 33 [.ptr nb 0,.agg (nF 2).cells] (N.st++st) fun d st'=>∃N':NT,NetL N' [nR] [nF 1,nF 2]∧N'.b=nb∧d=.b false∧(N'.st++st).Perm st'):=fun nb N e h st=>by
  have:=h.assert (nF 2) hR1 (VJ 2 (by decide)) (by decide) (by decide) st
  rw[a3,e] at this
  exact this
 have hRe:Hid (∀(nb:Nat) (N:NT),N.b=nb→NetL N [nR] [nF 1,nF 2]→∀st,TrF Tryz.prog 35 [.ptr nb 0,.i 2] (N.st++st) fun d st'=>∃N':NT,NetL N' [nR] [nF 1]∧N'.b=nb∧d=.b true∧(N'.st++st).Perm st'):=fun nb N e h st=>by
  have:=h.retract 2 hR1 st
  rw[a4,e] at this
  exact this
 have hM2:Hid (∀(nb:Nat) (N:NT),N.b=nb→NetL N [nR] [nF 1,nF 2]→∀st,TrF Tryz.prog 37 [.ptr nb 0] (N.st++st) fun d st'=>d=.sl .shared [[.i 0,.sl .shared [[.i 2]]]]∧st'=N.st++st):=fun nb N e h st=>by
  have:=h.matches_ hR1 nR_rk.p4 (Hc nR_rk.rl nR_rk.p4 (by decide)) st
  rw[m2,e] at this
  exact this
 have hM1:Hid (∀(nb:Nat) (N:NT),N.b=nb→NetL N [nR] [nF 1]→∀st,TrF Tryz.prog 37 [.ptr nb 0] (N.st++st) fun d st'=>d=.sl .shared [[.i 0,.sl .shared [[.i 1]]]]∧st'=N.st++st):=fun nb N e h st=>by
  have:=h.matches_ hR1 nR_rk.p4 (Hc nR_rk.rl nR_rk.p4 (by decide)) st
  rw[m1,e] at this
  exact this
 have hT:Hid (∀(nb:Nat) (N:NT),N.b=nb→NetL N [nR] [nF 1,nF 2]→∀st,TrF Tryz.prog 41 [.ptr nb 0] (N.st++st) fun d st'=>d=.i 3∧st'=N.st++st):=fun nb N e h st=>by
  have:=h.tokens hR1 nR_rk.p14 (nR_rk.tok (by decide)) st
  rw[t2,e] at this
  exact this
 have hE:Hid (∀(nb:Nat) (N:NT),N.b=nb→NetL N [nR] [nF 1]→∀st,TrF Tryz.prog 43 [.ptr nb 0,.agg [.i 0,.sl .shared [[.i 1]]]] (N.st++st) fun d st'=>d=.tup [.sl .shared [[.i 2,.i 1,.str ⟨#[]⟩,.sl .shared []],[.i 0,.i 0,.str ⟨#[]⟩,.sl .shared []],[.i 0,.i 0,.str ⟨#[]⟩,.sl .shared []],[.i 0,.i 0,.str ⟨#[]⟩,.sl .shared []],[.i 0,.i 0,.str ⟨#[]⟩,.sl .shared []],[.i 0,.i 0,.str ⟨#[]⟩,.sl .shared []],[.i 0,.i 0,.str ⟨#[]⟩,.sl .shared []],[.i 0,.i 0,.str ⟨#[]⟩,.sl .shared []]],.b true]∧st'=N.st++st):=fun nb N e h st=>by
  have:=h.env ⟨0,[1]⟩ hR1 nR_rk.p4 (by decide) st
  rw[e1,e] at this
  simp only[Yt,List.map_cons,List.map_nil,V.cells_mk,Mt.cells,Ae] at this
  exact this
 have hF:Hid (∀(nb:Nat) (N:NT),N.b=nb→NetL N [nR] [nF 1]→∀st,TrF Tryz.prog 40 [.ptr nb 0] (N.st++st) fun d st'=>d=.sl .shared [[.i 1,.i 0,.i 0,.i 0,.sl .shared [[.i 2,.i 1,.str ⟨#[]⟩,.sl .shared []]]]]∧st'=N.st++st):=fun nb N e h st=>by
  have:=h.facts st
  rw[e,List.map_cons,List.map_nil,JE] at this
  exact this
 rw[JE] at hA1 hA2 hA3 hO1 hO2
 refine Qin [0] Tryz.func30 Tryz.results30 Tryz.ntmps30 ?_
 repeat' (first|refine QV ?_|with_reducible refine Co ?_|((with_reducible apply(Ah (f:=32) (henter:=Tryz.call32) (hp:=List.Perm.refl _) (h:=(hNew.out _ _))));(focus exact q_v);(focus(first|exact LEL.refl _|((repeat' (first|exact LEL.nil|refine LEL.cons ?_ ?_|exact LE.refl _|exact LE.sl _ _|refine LE.agg ?_));done)));(rintro d0 st0 ⟨N0,hL0,rfl,hp0⟩))|((with_reducible apply(Ah (f:=62) (henter:=Tryz.call62) (hp:=List.Perm.refl _) (h:=(hO1.out _))));(focus exact q_v);(focus(first|exact LEL.refl _|((repeat' (first|exact LEL.nil|refine LEL.cons ?_ ?_|exact LE.refl _|exact LE.sl _ _|refine LE.agg ?_));done)));(rintro d0 st0 ⟨rfl,rfl⟩))|((with_reducible apply(Ah (f:=62) (henter:=Tryz.call62) (hp:=List.Perm.refl _) (h:=(hO2.out _))));(focus exact q_v);(focus(first|exact LEL.refl _|((repeat' (first|exact LEL.nil|refine LEL.cons ?_ ?_|exact LE.refl _|exact LE.sl _ _|refine LE.agg ?_));done)));(rintro d0 st0 ⟨rfl,rfl⟩))|((with_reducible apply(Ah (f:=33) (henter:=Tryz.call33) (hp:=hp0.symm) (h:=(hA1.out _ _ rfl hL0 _))));(focus exact q_v);(focus(first|exact LEL.refl _|((repeat' (first|exact LEL.nil|refine LEL.cons ?_ ?_|exact LE.refl _|exact LE.sl _ _|refine LE.agg ?_));done)));(rintro d0 st0 ⟨N1,hL1,hb1,rfl,hp1⟩))|((with_reducible apply(Ah (f:=33) (henter:=Tryz.call33) (hp:=hp1.symm) (h:=(hA2.out _ _ hb1 hL1 _))));(focus exact q_v);(focus(first|exact LEL.refl _|((repeat' (first|exact LEL.nil|refine LEL.cons ?_ ?_|exact LE.refl _|exact LE.sl _ _|refine LE.agg ?_));done)));(rintro d0 st0 ⟨N2,hL2,hb2,rfl,hp2⟩))|((with_reducible apply(Ah (f:=33) (henter:=Tryz.call33) (hp:=hp2.symm) (h:=(hA3.out _ _ hb2 hL2 _))));(focus exact q_v);(focus(first|exact LEL.refl _|((repeat' (first|exact LEL.nil|refine LEL.cons ?_ ?_|exact LE.refl _|exact LE.sl _ _|refine LE.agg ?_));done)));(rintro d0 st0 ⟨N3,hL3,hb3,rfl,hp3⟩))|((with_reducible apply(Ah (f:=37) (henter:=Tryz.call37) (hp:=hp3.symm) (h:=(hM2.out _ _ hb3 hL3 _))));(focus exact q_v);(focus(first|exact LEL.refl _|((repeat' (first|exact LEL.nil|refine LEL.cons ?_ ?_|exact LE.refl _|exact LE.sl _ _|refine LE.agg ?_));done)));(rintro d0 st0 ⟨rfl,rfl⟩))|((with_reducible apply(Ah (f:=41) (henter:=Tryz.call41) (hp:=List.Perm.refl _) (h:=(hT.out _ _ hb3 hL3 _))));(focus exact q_v);(focus(first|exact LEL.refl _|((repeat' (first|exact LEL.nil|refine LEL.cons ?_ ?_|exact LE.refl _|exact LE.sl _ _|refine LE.agg ?_));done)));(rintro d0 st0 ⟨rfl,rfl⟩))|((with_reducible apply(Ah (f:=35) (henter:=Tryz.call35) (hp:=List.Perm.refl _) (h:=(hRe.out _ _ hb3 hL3 _))));(focus exact q_v);(focus(first|exact LEL.refl _|((repeat' (first|exact LEL.nil|refine LEL.cons ?_ ?_|exact LE.refl _|exact LE.sl _ _|refine LE.agg ?_));done)));(rintro d0 st0 ⟨N4,hL4,hb4,rfl,hp4⟩))|((with_reducible apply(Ah (f:=37) (henter:=Tryz.call37) (hp:=hp4.symm) (h:=(hM1.out _ _ hb4 hL4 _))));(focus exact q_v);(focus(first|exact LEL.refl _|((repeat' (first|exact LEL.nil|refine LEL.cons ?_ ?_|exact LE.refl _|exact LE.sl _ _|refine LE.agg ?_));done)));(rintro d0 st0 ⟨rfl,rfl⟩))|((with_reducible apply(Ah (f:=43) (henter:=Tryz.call43) (hp:=List.Perm.refl _) (h:=(hE.out _ _ hb4 hL4 _))));(focus exact q_v);(focus(first|exact LEL.refl _|((repeat' (first|exact LEL.nil|refine LEL.cons ?_ ?_|exact LE.refl _|exact LE.sl _ _|refine LE.agg ?_));done)));(rintro d0 st0 ⟨rfl,rfl⟩))|((with_reducible apply(Ah (f:=40) (henter:=Tryz.call40) (hp:=List.Perm.refl _) (h:=(hF.out _ _ hb4 hL4 _))));(focus exact q_v);(focus(first|exact LEL.refl _|((repeat' (first|exact LEL.nil|refine LEL.cons ?_ ?_|exact LE.refl _|exact LE.sl _ _|refine LE.agg ?_));done)));(rintro d0 st0 ⟨rfl,rfl⟩))|refine QY ?_|(refine QB ?_;intro b)|(refine QP ?_;intro o' ho')|(with_reducible refine QZ ?_<;>(try constructor)<;>intro hb<;>try intro hb1)|fail)
 all_goals exact Ab (by simp) q_y ((List.sublist_cons_self ..).trans (List.sublist_append_right ..)) (LE.of_eq q_v) ⟨rfl,rfl⟩
end
end Go.Proofs.YtoeidpmjifjplaaGreat
