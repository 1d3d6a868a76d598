import Derived.Test.YtahdiiaadjdmcaaGreatStgA
namespace Go.Proofs.YtahdiiaadjdmcaaGreat
open Go.RowKit
def fT (S:aY):aY × Int:=match S.old with
 | none=>({S with old:=some S.rows},0)
 | some _=>(S,64)
def fX (S:aY):aY × Int:=match S.old with
 | none=>(S,65)
 | some _=>({S with old:=none},0)
theorem dB.with_ {v v':bI} (hr:dB v) (h1:v'.width=v.width) (h2:v'.most=v.most) (h3:v'.gs=v.gs) (h4:v'.P=v.P) (h5:v'.sl=v.sl) (h6:v'.lv=v.lv) (h7:v'.refs=v.refs) (h8:v'.E=v.E) (h9:v'.gx=v.gx):dB v':=by
 cases v;cases v'
 dsimp only at h1 h2 h3 h4 h5 h6 h7 h8 h9
 subst h1;subst h2;subst h3;subst h4;subst h5;subst h6;subst h7;subst h8;subst h9
 exact ⟨hr.width,hr.most,hr.gsl,hr.gs,hr.rows,hr.slots,hr.vals,hr.alive,hr.lv,hr.refs,hr.ents,hr.gx⟩
theorem cW.mark {w:World} {lab:aP} {v:bI} (h:cW w lab v) (b:Bool):fK w lab (w.setCell ⟨v.x,11,none⟩ (.bool b)) {v with marked:=b}:=by
 obtain ⟨hx,y6,It,o6⟩:=h.part 0
 have hC:aF (lab.own 0) w (w.setCell ⟨v.x,11,none⟩ (.bool b)):=(aF.refl _ w).setCell (p:=⟨v.x,11,none⟩) (.inl y6) _
 refine h.chg1 0 (B':=lab.own 0) (fun b hb=>.inl hb) (fun b hb=>Nat.lt_of_lt_of_le (h.lt b 0 hb) hC.size) hC (fun i hi=>?_) ?_
 ·match i,hi with
  | 0,hi=>exact absurd rfl hi
  | 1,_=>exact id
  | 2,_=>exact id
  | 3,_=>exact id
  | 4,_=>exact id
  | 5,_=>exact id
  | 6,_=>exact id
  | 7,_=>exact id
  | 8,_=>exact id
  | 9,_=>exact id
  | m+10,_=>exact id
 ·exact ⟨hx.set_ 11 _,y6,It.far hx (by decide) 11 _,o6.far hx (by decide) 11 _⟩
set_option maxRecDepth 100000 in
theorem Bn {w:World} {B:Nat→Prop} {x:Nat} {S:aY} {N:Nat} (h:kK w B x S N) :
 Calls Tryz.prog 51 #[.pointer (some ⟨x,0,none⟩)] w fun e w'=>e=.returned (.int .i64 (fT S).2)∧pA w B x (fT S).1 (N+1) w':=by
 obtain ⟨lab,v,D,P0,F0,h1,h2,h3,h4⟩:=h
 have a11:w.cell? ⟨x,11,none⟩=some (.bool v.marked):=by rw [← h3.x];exact h1.str.cell 11
 have f11:w.frozen? ⟨x,11,none⟩=false:=by rw [← h3.x];exact h1.str.frozen 11
 cases hm:v.marked with
 |true=>
  rw [hm] at a11
  have hold:∃ o,S.old=some o:=by
   have:=h3.mark
   rw [hm] at this
   exact Option.isSome_iff_exists.1 this.symm
  obtain ⟨o,ho⟩:=hold
  have hb:fT S=(S,64):=by unfold fT;rw [ho]
  rw [hb]
  have HS:=aA (show pA w B x S (N+1) w from pA.of h2 (fK.refl' (h1.tick 0)) (h3.tick 0) (h4.tick 0 1 (by omega) (Nat.le_refl _)))
  clear h1 h2 h3 h4 hm ho hb f11
  go_enter Tryz.func51,Tryz.ntmps51
  go_wp2_with fail
  go_ret
  exact ⟨rfl,HS.out⟩
 |false=>
  rw [hm] at a11
  have hold:S.old=none:=by
   have:=h3.mark
   rw [hm] at this
   cases hs:S.old with
   | none=>rfl
   | some o=>rw [hs] at this;cases this
  have hb:fT S=({S with old:=some S.rows},0):=by unfold fT;rw [hold]
  rw [hb]
  have A_:=h4.idle hm
  have hT:=h4.tick 0 1 (by omega) (Nat.le_refl _)
  have HS:=aA (show pA w B x {S with old:=some S.rows} (N+1) (w.setCell ⟨x,11,none⟩ (.bool true)) from by
   have hr:=h1.mark true
   rw [show (⟨v.x,11,none⟩ : Addr) =⟨x,11,none⟩ by rw [h3.x]] at hr
   refine pA.of h2 (v':={v with marked:=true}) (P0:=v.P) (F0:=fJ v.most v.sl v.fr) hr ⟨h3.x,h3.width,h3.most,h3.gs,h3.rows,rfl,fun o ho=>by injection ho with ho;rw [← ho];exact h3.rows⟩
    ⟨dB.with_ h4.row rfl rfl rfl rfl rfl rfl rfl rfl rfl,h4.lan,⟨hT.gen.s,hT.gen.L⟩,hT.pu,hT.K,hT.ul,?_,fun hc=>by cases hc⟩
   show qE (nU v.width v.most) v.gs v.P (fJ v.most v.sl v.fr) v.U v.P (fJ v.most v.sl v.fr)
   rw [A_.1]
   exact .nil)
  clear h1 h2 h3 h4 hm hold hb A_ hT
  go_enter Tryz.func51,Tryz.ntmps51
  go_wp2_with fail
  go_ret
  exact ⟨rfl,HS.out⟩
theorem cW.unmark {w:World} {lab:aP} {v:bI} (h:cW w lab v):fK w lab ((w.setCell ⟨v.x,11,none⟩ (.bool false)).setCell ⟨v.x,12,none⟩ (.slice none 0 0)) {v with marked:=false,uA:=none,uC:=0,un:=[],U:=[]}:=by
 obtain ⟨hx,y6,It,o6⟩:=h.part 0
 have hC:aF (lab.own 0) w ((w.setCell ⟨v.x,11,none⟩ (.bool false)).setCell ⟨v.x,12,none⟩ (.slice none 0 0)):=((aF.refl _ w).setCell (p:=⟨v.x,11,none⟩) (.inl y6) _).setCell (p:=⟨v.x,12,none⟩) (.inl y6) _
 refine h.chg1 0 (B':=lab.own 0) (fun b hb=>.inl hb) (fun b hb=>Nat.lt_of_lt_of_le (h.lt b 0 hb) hC.size) hC (fun i hi=>?_) ?_
 ·match i,hi with
  | 0,hi=>exact absurd rfl hi
  | 1,_=>exact id
  | 2,_=>exact id
  | 3,_=>exact id
  | 4,_=>exact id
  | 5,_=>exact id
  | 6,_=>exact id
  | 7,_=>exact id
  | 8,_=>exact fun h=>⟨h.1,rfl,fun i u z hu=>by simp at hu⟩
  | 9,_=>exact id
  | m+10,_=>exact id
 ·exact ⟨(hx.set_ 11 _).set_ 12 _,y6,(It.far hx (by decide) 11 _).far (hx.set_ 11 _) (by decide) 12 _,aJ.nil _ _ _ _⟩
set_option maxRecDepth 100000 in
theorem Us {w:World} {B:Nat→Prop} {x:Nat} {S:aY} {N:Nat} (h:kK w B x S N) :
 Calls Tryz.prog 77 #[.pointer (some ⟨x,0,none⟩)] w fun e w'=>e=.returned (.int .i64 (fX S).2)∧pA w B x (fX S).1 (N+1) w':=by
 obtain ⟨lab,v,D,P0,F0,h1,h2,h3,h4⟩:=h
 have a11:w.cell? ⟨x,11,none⟩=some (.bool v.marked):=by rw [← h3.x];exact h1.str.cell 11
 have f11:w.frozen? ⟨x,11,none⟩=false:=by rw [← h3.x];exact h1.str.frozen 11
 cases hm:v.marked with
 |false=>
  rw [hm] at a11
  have hold:S.old=none:=by
   have:=h3.mark
   rw [hm] at this
   cases hs:S.old with
   | none=>rfl
   | some o=>rw [hs] at this;cases this
  have hb:fX S=(S,65):=by unfold fX;rw [hold]
  rw [hb]
  have HS:=aA (show pA w B x S (N+1) w from pA.of h2 (fK.refl' (h1.tick 0)) (h3.tick 0) (h4.tick 0 1 (by omega) (Nat.le_refl _)))
  clear h1 h2 h3 h4 hm hold hb f11
  go_enter Tryz.func77,Tryz.ntmps77
  go_wp2_with fail
  go_ret
  exact ⟨rfl,HS.out⟩
 |true=>
  rw [hm] at a11
  have hold:∃ o,S.old=some o:=by
   have:=h3.mark
   rw [hm] at this
   exact Option.isSome_iff_exists.1 this.symm
  obtain ⟨o,ho⟩:=hold
  have hb:fX S=({S with old:=none},0):=by unfold fX;rw [ho]
  rw [hb]
  have b12:=(h1.str.set_ 11 (.bool false))
  have a12:(w.setCell ⟨x,11,none⟩ (.bool false)).cell? ⟨x,12,none⟩=some (.slice v.uA v.un.length v.uC):=by rw [← h3.x];exact b12.cell 12
  have f12:(w.setCell ⟨x,11,none⟩ (.bool false)).frozen? ⟨x,12,none⟩=false:=by rw [← h3.x];exact b12.frozen 12
  have hT:=h4.tick 0 1 (by omega) (Nat.le_refl _)
  have HS:=aA (show pA w B x {S with old:=none} (N+1) ((w.setCell ⟨x,11,none⟩ (.bool false)).setCell ⟨x,12,none⟩ (.slice none 0 0)) from by
   have hr:=h1.unmark
   rw [show (⟨v.x,11,none⟩ : Addr) =⟨x,11,none⟩ by rw [h3.x],show (⟨v.x,12,none⟩ : Addr) =⟨x,12,none⟩ by rw [h3.x]] at hr
   refine pA.of h2 (v':={v with marked:=false,uA:=none,uC:=0,un:=[],U:=[]}) (P0:=v.P) (F0:=fJ v.most v.sl v.fr) hr ⟨h3.x,h3.width,h3.most,h3.gs,h3.rows,rfl,fun o ho=>by cases ho⟩
    ⟨dB.with_ h4.row rfl rfl rfl rfl rfl rfl rfl rfl rfl,h4.lan,⟨fun i=>Nat.le_trans (hT.gen.s i) (Nat.sub_le _ _),fun i=>Nat.le_trans (hT.gen.L i) (Nat.sub_le _ _)⟩,Nat.zero_le _,?_,Nat.zero_le _,.nil,fun _=>⟨rfl,rfl,rfl,rfl⟩⟩
   have hk:=hT.K
   show v.K+64*0≤kF (N+1)
   have jT:v.K+0+64*v.U.length≤kF (N+1):=hk
   omega)
  clear h1 h2 h3 h4 hm ho hb hT b12
  go_enter Tryz.func77,Tryz.ntmps77
  go_wp2_with fail
  go_ret
  exact ⟨rfl,HS.out⟩
theorem cW.und {w:World} {lab:aP} {v:bI} (h:cW w lab v) {i:Nat} {u:Value} {z:mY} (hu:v.un[i]?=some u) (hz:v.U[i]?=some z):oM w (lab.own 8) v.x u z:=(h.part 8).2.2 i u z hu hz
theorem zaA {v:bI} {D:Nat→List (List V × Nat)} {N:Nat} (gI:oD v D N) {s:Nat} {r:List V} (hs:(s,r)∈v.P):r.length≤30∧aV v.width r=true∧dP r∧uH r:=by
 obtain ⟨h1,h2,h3⟩:=gI.row.rows _ hs
 have h4:=h1
 unfold aV at h4
 rw [Bool.and_eq_true,decide_eq_true_eq] at h4
 exact ⟨by have h5:=gI.row.width;have h6:r.length=v.width:=h4.1;omega,h1,h2,h3⟩
theorem kg {v:bI} (hr:dB v) {s s':Nat} {r:List V} (h1:(s,r)∈v.P) (h2:(s',r)∈v.P):s'=s:=by
 obtain ⟨i,hi⟩:=List.mem_iff_getElem?.1 h1
 obtain ⟨j,hj⟩:=List.mem_iff_getElem?.1 h2
 have h4:(v.P.map (·.2))[i]?=(v.P.map (·.2))[j]?:=by rw [List.getElem?_map,List.getElem?_map,hi,hj];rfl
 have h5:i<(v.P.map (·.2)).length:=by rw [List.length_map];exact (List.getElem?_eq_some_iff.1 hi).1
 have h6:=(List.getElem?_inj h5 hr.vals).1 h4
 subst h6
 have h7:=Option.some.inj (hi.symm.trans hj)
 injection h7 with h7
 exact h7.symm
set_option maxRecDepth 100000 in
set_option maxHeartbeats 1000000 in
theorem Yn {w:World} {lab:aP} {v:bI} {D:Nat→List (List V × Nat)} {N M i:Nat} (h:cW w lab v) (gI:oD v D N) (Jl:∀ i,aX v.sl i<M) (hM2:∀ i,aX v.sL i<M) (hM:M≤1073741824) (hK:v.K≤4611686018427370000) {sb kb n c:Nat} {A:Option Addr} {r:List V}
 (hu:v.un[i]?=some (.func (.func 140) #[] #[.pointer (some ⟨sb,0,none⟩),.pointer (some ⟨kb,0,none⟩)])) (hz:v.U[i]?=some (.put r A n c)) {P':List aS} {s:Nat} (hP:v.P=P' ++ [(s,r)]) :
 Calls Tryz.prog 140 #[.pointer (some ⟨sb,0,none⟩),.pointer (some ⟨kb,0,none⟩)] w fun e w'=>e=.returned (.tuple #[])∧∃ v' D',mI (v.tick 1) v' s P'∧fK w lab w' v'∧oD v' D' M:=by
 have bE:(s,r)∈v.P:=by rw [hP];simp
 have dY:=zaA gI bE
 have HB:=aA (fun (w2:World) (lab2:aP) (v2:bI) (m2:cW w2 lab2 v2) (e1:v2.x=v.x) (e2:v2.un=v.un) (e3:v2.U=v.U)=>show w2.cell? ⟨sb,0,none⟩=some (.pointer (some ⟨v.x,0,none⟩))∧w2.cell? ⟨kb,0,none⟩=some (.slice A n c) from by
  obtain ⟨sb',kb',h1,h2,-,h4,-⟩:=m2.und (by rw [e2];exact hu) (by rw [e3];exact hz)
  injection h1 with _ _ h1
  have h5:sb=sb'∧kb=kb':=by simpa using h1
  obtain ⟨rfl,rfl⟩:=h5
  exact ⟨by rw [← e1];exact h2.cell 0,h4.cell 0⟩)
 have HR:=aA (show bD w A n r from by
  obtain ⟨sb',kb',h1,h2,-,h4,-,h6⟩:=h.und hu hz
  exact ⟨h6.1,by have:=h6.1.len;omega,dY.2.2.1,dY.2.2.2⟩)
 have HSl:=aA (fun (w1:World) (h1:aD w w1)=>Ax (h.ext h1) (by omega) c (HR.out.ext h1) (by have:=vD r;omega))
 have HUn:=aA (fun (w2:World) (lab2:aP) (m2:cW w2 lab2 (v.tick 1))=>zV m2 (D:=D) (N:=N) (M:=M) ⟨⟨gI.row.width,gI.row.most,gI.row.gsl,gI.row.gs,gI.row.rows,gI.row.slots,gI.row.vals,gI.row.alive,gI.row.lv,gI.row.refs,gI.row.ents,gI.row.gx⟩,gI.lan,gI.gen⟩ Jl hM2 hM (by show v.K+1≤_;omega) (P1:=P') (P2:=[]) (s:=s) (r:=r) hP)
 have HS:=aA (fun (o:Option Int) (ho:pC v r o)=>show o=some (s:Int) from by
  have h1:=ho.spec gI.row dY.2.2.2
  cases o with
  | none=>exact absurd (List.mem_map.2 ⟨_,bE,rfl⟩) (h1.2 rfl)
  |some z=>
   obtain ⟨s',rfl,h3⟩:=h1.1 z rfl
   rw [kg gI.row bE h3])
 have HH:=aA h
 rw [show (v.tick 1).x=v.x from rfl] at HUn
 clear hu hz hP bE dY HR h gI Jl hM2
 go_enter Tryz.func140,Tryz.ntmps140
 go_upto_region 0 with fail
 refine mK [true,true,true,false,false] (fun w'=>w'.cell? ⟨sb,0,none⟩=some (.pointer (some ⟨v.x,0,none⟩))∧w'.cell? ⟨kb,0,none⟩=some (.slice A n c)) (by kernel_rfl) (by kernel_rfl) (fun _ _ _ _ _ h=>h) ?_ ?_
 ·exact fun w' hw'=>HB.out w' lab v (HH.out.ext hw') rfl rfl rfl
 intro wq hwq
 iterate 3
  unfold Iv
  apply Exists.intro
  refine ⟨fun w9 h9=>?_,fun K hK=>?_⟩
  ·go_simp;first | done | rfl
  go_simp;refine hK _ ?_;clear hK K
 unfold Iv
 go_wp2_with ((with_reducible refine (HSl.out wq hwq).mono ?_);rintro e w3 ⟨o,h5,rfl,h6⟩;obtain ⟨lab3,m3,st3⟩:=vT h6;have L3:=aA h5;have M3:=aA m3;have S3:=aA st3;clear h5 h6 m3 st3)
 simp only [kB]
 refine ⟨HB.out w3 lab3 _ M3.out rfl rfl rfl,?_⟩
 obtain rfl:=HS.out o L3.out
 dsimp only [Option.getD]
 unfold Iv
 go_wp2_with ((with_reducible refine (HUn.out w3 lab3 M3.out).mono ?_);rintro e w4 ⟨bh,v',D',rfl,h1,-,-,⟨lab4,m4,d4,c4,-⟩,h7⟩;have U4:=aA h1;have A4:=aA h7;have M4:=aA m4;have D4:=aA d4;have C4:=aA c4;clear h1 h7 m4 d4 c4)
 simp only [kB]
 refine ⟨HB.out w4 lab4 _ M4.out U4.out.kept.x U4.out.kept.un U4.out.kept.U,?_⟩
 unfold Iv
 clear HB HSl HUn
 go_end0
 have fI:=eV (show eU w lab wq lab from ⟨fun _ hb=>.inl hb,aF.of hwq⟩) (aD.refl wq)
 have zdc:=bB (bB fI S3.out) ⟨D4.out,C4.out⟩
 have zhB:=U4.out
 rw [List.append_nil] at zhB
 exact ⟨rfl,v',D',zhB,⟨lab4,M4.out,zdc.1,zdc.2⟩,A4.out⟩
set_option maxRecDepth 100000 in
set_option maxHeartbeats 1000000 in
theorem Tq {w:World} {lab:aP} {v:bI} {D:Nat→List (List V × Nat)} {N i:Nat} (h:cW w lab v) (gI:oD v D N) (hN:N<1073741824) (hK:v.K≤4611686018427370000) {sb kb hb n c m d:Nat} {A H:Option Addr} {r:List V} {P1 P2:List aS} {s:Nat} {F:List Nat}
 (hu:v.un[i]?=some (.func (.func 138) #[] #[.pointer (some ⟨sb,0,none⟩),.pointer (some ⟨kb,0,none⟩),.pointer (some ⟨hb,0,none⟩)])) (hz:v.U[i]?=some (.drop r A n c (eC v.gs r P2) H m d)) (hP:v.P=P1 ++ P2) (hg:nU v.width v.most (P1 ++ (s,r) :: P2)) (zaJ:fJ v.most v.sl v.fr=s :: F) :
 Calls Tryz.prog 138 #[.pointer (some ⟨sb,0,none⟩),.pointer (some ⟨kb,0,none⟩),.pointer (some ⟨hb,0,none⟩)] w fun e w'=>e=.returned (.tuple #[])∧∃ v' D',wU v v' s (P1 ++ (s,r) :: P2)∧fK w lab w' v'∧oD v' D' N:=by
 obtain ⟨sb',kb',hb',q1,q2,-,q4,-,q6,q7,-,-⟩:=h.und hu hz
 injection q1 with _ _ q1
 have q9:sb=sb'∧kb=kb'∧hb=hb':=by simpa using q1
 obtain ⟨rfl,rfl,rfl⟩:=q9
 have s0:w.cell? ⟨sb,0,none⟩=some (.pointer (some ⟨v.x,0,none⟩)):=q2.cell 0
 have k0:w.cell? ⟨kb,0,none⟩=some (.slice A n c):=q4.cell 0
 have h0:w.cell? ⟨hb,0,none⟩=some (.slice H m d):=q7.cell 0
 have dY:=hg.1 (s,r) (by simp)
 have lQ:r∉v.P.map (·.2):=fun hm=>by
  have h1:=hg.2.1
  rw [List.map_append,List.map_cons,List.nodup_append] at h1
  rw [hP,List.map_append,List.mem_append] at hm
  rcases hm with hm | hm
  ·exact h1.2.2 r hm r (by simp) rfl
  ·exact (List.nodup_cons.1 h1.2.1).1 hm
 have i4:v.P.length<v.most:=by
  have h1:=hg.2.2
  rw [hP]
  simp only [List.length_append,List.length_cons] at h1 ⊢
  omega
 have HLk:=aA (J1 h gI hN (by omega) c q6 dY.1 dY.2.1 dY.2.2 lQ i4 hP (H:=H) (m:=m) d (fun w' lab' v' m' e1 e2 e3 _ _=>by
  obtain ⟨sb',kb',hb',p1,-,-,-,-,-,p7,-,p9⟩:=m'.und (by rw [e2];exact hu) (by rw [e3];exact hz)
  exact p9.1))
 have HF:=aA zaJ
 clear hu hz hP hg zaJ dY lQ i4 q1 q2 q4 q6 q7 h gI
 go_enter Tryz.func138,Tryz.ntmps138
 go_wp2_with ((with_reducible refine HLk.out.mono ?_);rintro e w4 ⟨s',v',D',rfl,h1,-,h2,h3⟩;have U4:=aA h1;have S4:=aA h2;have A4:=aA h3;clear h1 h2 h3)
 go_end0
 have h1:=U4.out.fs
 rw [HF.out] at h1
 injection h1 with h1
 subst h1
 exact ⟨rfl,v',D',U4.out,S4.out,A4.out⟩
end Go.Proofs.YtahdiiaadjdmcaaGreat
