import Derived.Test.YtahdiiaadjdmcaaGreatNgD
namespace Go.Proofs.YtahdiiaadjdmcaaGreat
open Go.RowKit
theorem Xf {P:Nat→Prop} {w:World} {cells:List Value} {rows:List (List V)} (h:gJ (fun w cs r=>∃ A n c,cs=[.slice A n c]∧aJ w P 85 3 n (.slice A n c) (aO r)) 1 w cells rows):∀ v∈cells,∀ g,v.ownBlock=some g→P g:=by
 induction h with
 | nil=>intro v hv;cases hv
 |cons h1 h2 h3 h4 ih=>
  intro v hv g hg
  obtain ⟨A,n,c,rfl,ho⟩:=h3
  rcases List.mem_append.1 hv with hv | hv
  ·obtain rfl:=List.mem_singleton.1 hv
   exact ho.inB g hg
  ·exact ih v hv g hg
theorem Bb {P:Nat→Prop} {w:World}:∀ {cells:List Value} {rows:List (List V)},cells.length=rows.length→(∀ (i:Nat) (r:List V),rows[i]?=some r→∃ Ai ci,cells[i]?=some (.slice Ai r.length ci)∧aJ w P 85 3 r.length (.slice Ai r.length ci) (aO r))→
 gJ (fun w cs r=>∃ A n c,cs=[.slice A n c]∧aJ w P 85 3 n (.slice A n c) (aO r)) 1 w cells rows
 | [],[],_,_=>.nil
 | [],_ :: _,h,_=>by simp at h
 | _ :: _,[],h,_=>by simp at h
 |u :: cells,r :: rows,hl,h=>by
  obtain ⟨A,c,h1,h2⟩:=h 0 r rfl
  obtain rfl:u=.slice A r.length c:=by simpa using h1
  exact .cons (cs:=[.slice A r.length c]) rfl (fun v hv=>by obtain rfl:=List.mem_singleton.1 hv;rfl) ⟨A,r.length,c,rfl,h2⟩ (Bb (by simpa using hl) fun i q hq=>h (i+1) q (by simpa using hq))
set_option maxRecDepth 100000 in
set_option maxHeartbeats 4000000 in
theorem Dg {w:World} {lab:aP} {K:NK} {v:eT} {a:aR} {N:Nat} {G:Nat→World→(Nat→Prop)→Prop} {key:List V} {L:List (List V)} (hL:gY (S2 K a) 0 key=L) (h:jD w lab K v a N) (hk:K.kind=3) (hN:N+1≤8796093022208) (hLl:L.length≤65536) (hLr:∀ r∈L,yL K.inn r)
 (kY:G 0 w (lab.own 1)) (hGc:∀ i,Qy (G i))
 (gW:∀ (i:Nat) (r:List V) (wr:World) (B:Nat→Prop) (A:Option Addr) (n c:Nat),L[i]?=some r→G i wr B→bD wr A n r→dR B A→Calls Tryz.prog 135 #[.pointer (some ⟨v.x1,0,none⟩),.slice A n c] wr fun e w'=>(∃ y,e=.returned y)∧∃ B',G (i+1) w' B'∧(∀ b,B' b→B b∨wr.heap.size≤b)∧(∀ b,B' b→b<w'.heap.size)∧aF B wr w')
 (Dy:K.inn≤30) {A:Option Addr} {n:Nat} (c:Nat) (ha:bD w A n key) :
 Calls Tryz.prog 134 #[.pointer (some ⟨v.k,0,none⟩),.slice A n c,.func (.func 135) #[.pointer (some ⟨v.x1,0,none⟩)] #[]] w fun e w'=>∃ y lab',e=.returned y∧jD w' lab' K v a (N+1)∧G L.length w' (lab'.own 1)∧eU w lab w' lab'∧cD w.heap.size lab'.dom w' L L y:=by
 have fM:=aD.alloc w (.cells #[.slice none 0 0,.slice none 0 0] 38)
 have h1:=h.ext fM
 have It:=wK (h1.part 2 hk) (by omega) (k:=0) (by exact Nat.zero_lt_one) c (ha.ext fM)
 rw [hL,show (Value.int .i64 ((0:Nat):Int))=.int .i64 0 from rfl] at It
 have HG:=aA It
 have RB:=aA (aL.new w 38 #[.slice none 0 0,.slice none 0 0])
 have k1:=(h1.meet hk).2.1
 have R1:=aA h1;have G1:=aA ((hGc 0).chg _ _ _ _ kY (aF.of fM (B:=fun _=>False)) fun _ _ x=>x)
 have HE:=aA fM;have dH:=aA (show ¬ lab.dom w.heap.size from fun ⟨i,hi⟩=>by have:=h.lt _ _ hi;omega)
 have jw:=aA hGc;have Wj:=aA gW;have zgA:=aA hLr
 clear h ha kY h1 fM It hGc gW hLr hL
 obtain ⟨rb,gU⟩ : ∃ rb,w.heap.size=rb:=⟨_,rfl⟩
 have HR:=aA (Nat.le_of_eq gU)
 rw [gU] at RB dH
 go_enter Tryz.func134,Tryz.ntmps134
 go_upto_region 1 with fail
 generalize aT:w.alloc (.cells #[.slice none 0 0,.slice none 0 0] 38)=w1 at *
 clear gU aT
 go_upto_region 3 with ((with_reducible refine HG.out.mono ?_);rintro e w2 ⟨A1,c1,rfl,T,hm,hs⟩;obtain ⟨lab2,r2,g2,st2,dT,tT,tS⟩:=R1.out.groupM (jw.out 0) G1.out (Nat.le_succ N) hs;have zea:=aA hm;have R2:=aA r2;have G2:=aA g2;have fR:=aA st2;have HT:=aA (And.intro dT (And.intro tT tS));clear hm hs r2 g2 st2 dT tT tS)
 have E3:=aA (aD.alloc w2 (.cells #[.slice none 0 0,.slice none 0 0] 38))
 have OB:=aA (aL.new w2 38 #[.slice none 0 0,.slice none 0 0])
 obtain ⟨ob,xW⟩ : ∃ ob,w2.heap.size=ob:=⟨_,rfl⟩
 have told:=zea.out.toldA (P:=Rg T w2.heap.size) fun b h1 h2=>⟨h1,h2⟩
 obtain ⟨cells,qC,cH,hap,dY⟩:=(told.ext E3.out).cells
 have oR:=aA qC;have zdh:=aA cH;have zw:=aA hap;have vU:=aA dY
 have wI:=aA (Nat.le_of_eq xW);have zdH:=aA (Nat.le_of_eq xW.symm)
 rw [xW] at OB ⊢
 generalize w2.alloc (.cells #[.slice none 0 0,.slice none 0 0] 38)=w3 at *
 clear xW told qC cH hap dY k1 zea
 have R3:=aA (R2.out.ext E3.out)
 have G3:=aA ((jw.out 0).chg _ _ _ _ G2.out (aF.of E3.out (B:=fun _=>False)) fun _ _ x=>x)
 have iZ:=aA (show rb<w1.heap.size∧w1.heap.size≤w2.heap.size∧ob<w3.heap.size from ⟨RB.out.lt,fR.out.2.size,OB.out.lt⟩)
 have zb3:=aA (show ¬ lab2.dom ob from fun hd=>by have:=R2.out.lt _ _ hd.choose_spec;have:=wI.out;omega)
 have zg4:=aA ((fR.out.2.blk RB.out dH.out).ext E3.out)
 have Za:=aA (iW fR.out dH.out RB.out.lt)
 go_wp2_with fail
 go_loopw [11,23] (fun _ s23 w'=>∃ (i:Nat) (lab4:aP),i≤L.length∧s23=.int .i64 i∧Hid (jD w' lab4 K v a (N+1))∧Hid (G i w' (lab4.own 1))∧Hid (∀ b,lab4.dom b→lab2.dom b∨w3.heap.size≤b)∧Hid (ziu w3 w' lab4.dom (Rg T w2.heap.size) ob rb i L cells)∧Hid (aF (fun b=>lab2.dom b∨b=ob) w3 w')) (fun _ s23 _=>L.length - (intOf s23).toNat)
 case atStart=>
  refine ⟨0,lab2,by omega,rfl,R3,G3,(fun _ h=>.inl h),⟨none,0,none,0,fun _=>False,fun _=>False,[],OB.out,aJ.nil _ _ _ _,aJ.nil _ _ _ _,.nil,by unfold pV;exact .nil,fun _ h=>h.elim,fun _ h=>h.elim (fun h=>h.elim) fun h=>h.elim⟩,aF.refl _ _⟩
 case round=>
  obtain ⟨i,lab4,hi,rfl,hR,hG,hSt,hM,hCh⟩:=hrel
  by_cases j0:i<L.length
  ·obtain ⟨AF,cF,AT,cT,PF,PT,cT2,xW,hF,hT,hTe,hTa,hd,hb⟩:=hM.out.out
   have vu:=aA xW;have HF:=aA hF;have zaH:=aA hT;have zm:=aA hTe;have xf:=aA hTa;have HD:=aA hd;have HB:=aA hb
   clear xW hF hT hTe hTa hd hb
   obtain ⟨r,hr⟩ : ∃ r,L[i]?=some r:=⟨_,List.getElem?_eq_getElem j0⟩
   obtain ⟨Ai,ci,Tb,Pc⟩:=vU.out i r hr
   have HRr:=aA hr;have zfY:=aA Tb
   have dW:=zgA.out r (List.mem_of_getElem? hr)
   have Jq:∀ b,Rg T w2.heap.size b→¬ (lab2.dom b∨b=ob):=fun b hb hd=>by
    have h1:=hb.1;have h2:=hb.2;have h3:=wI.out
    rcases hd with hd | hd
    ·have:=HT.out.1 b hd;omega
    ·omega
   have xJ:∀ b,Rg T w2.heap.size b→¬ lab4.dom b:=fun b hb hd=>by
    rcases hSt.out b hd with h | h
    ·exact Jq b hb (.inl h)
    ·have h2:=hb.2;have h3:=E3.out.size;omega
   have Ml:=aA xJ
   have Md:=aA (Pc.chg hCh.out Jq)
   have HOWr:=aA (zdh.out.chg hCh.out Jq)
   obtain ⟨gb,hA1,hgb,nD,hgc,hgf⟩:=HOWr.out.at_ (by omega)
   subst hA1
   have e0:wr.cell? ⟨gb,i,none⟩=some (.slice Ai r.length ci):=hgc i _ Tb
   have cZ:r.length≤1048576:=by
    have h1:=dW.1
    unfold aV at h1
    rw [Bool.and_eq_true,decide_eq_true_eq] at h1
    omega
   have Uf:=aA (show bD wr Ai r.length r from ⟨aW.own Md.out.own,cZ,dW.2.1,dW.2.2⟩)
   have lY:=aA (show dR (lab4.own 1) Ai from fun x hx hb=>xJ _ (Md.out.inB x.block (by rw [hx];rfl)) ⟨1,hb⟩)
   have HC:=aA (Wj.out i r wr (lab4.own 1) Ai r.length ci hr hG.out Uf.out lY.out)
   have zbk:=aA cZ
   clear hr Tb Pc dW Jq xJ hgb nD hgc hgf cZ
   go_upto_region 7 with ((with_reducible refine HC.out.mono ?_);rintro e w4 ⟨⟨y,rfl⟩,B',g1,g2,g3,g4⟩;obtain ⟨lab5,r5,g5,st5⟩:=hR.out.liveG (jw.out (i+1)) g1 g2 g3 g4;have R5:=aA r5;have G5:=aA g5;have uF:=aA st5;clear g1 g2 g3 g4 r5 g5 st5)
   have Ph:¬ lab4.dom ob:=fun hd=>by
    rcases hSt.out ob hd with h | h
    ·exact zb3.out h
    ·have:=iZ.out;omega
   have r7:∀ b,PF b∨PT b→¬ lab4.dom b:=fun b h=>(HB.out b h).2.2.1
   have zdO:=aA (uF.out.2.blk vu.out Ph)
   have zbt:=HF.out.chg uF.out.2 fun b h=>r7 b (.inl h)
   have zfR:=aA (zaH.out.chg uF.out.2 fun b h=>r7 b (.inr h))
   have zfP:=aA (zm.out.mono fun cs x hx=>by
    obtain ⟨A,n,c,e,ho⟩:=hx
    exact ⟨A,n,c,e,ho.chg uF.out.2 fun b h=>r7 b (.inr h)⟩ : gJ (fun w cs r=>∃ A n c,cs=[.slice A n c]∧aJ w PT 85 3 n (.slice A n c) (aO r)) 1 w4 cT2 (L.take i))
   have zbn:=aA (Md.out.chg uF.out.2 Ml.out)
   have zau:=aA Ph;have Wn:=aA r7
   have o0:w4.cell? ⟨ob,0,none⟩=some (.slice AF i cF):=zdO.out.cell 0
   have π:=aD.alloc w4 (.cells #[.slice Ai r.length ci] 28)
   have zaT:=aA (zbt.ext π)
   have e_:=aA ((aL.new w4 28 #[.slice Ai r.length ci]).sl (n:=1) (size:=1) rfl)
   have dG:=aA (show aQ [Value.slice Ai r.length ci] from fun v hv=>by simp at hv;rw [hv];rfl)
   have U_:=aA (zdO.out.ext π)
   have Nn:=aA π
   obtain ⟨i0,eQ,hz0,hz1,eO⟩:=info_parts Qd
   have Cs:=aA (And.intro eQ (And.intro hz0 (And.intro hz1 eO)))
   have Ec:=zbt.cap
   clear Ph r7 zbt π e0 HC
   go_upto_region 8 with (at_builtin;refine aI rfl (.tmp 31) (.tmp 33) _ rfl PF 28 i0 _ 1 24 Tryz.underlying36 Cs.out.1 Cs.out.2.1 Cs.out.2.2.1 Cs.out.2.2.2 rfl (by omega) (.slice AF i cF) i (cells.take i) rfl zaT.out _ 1 1 _ rfl e_.out dG.out (by unfold maxLen;omega) (by omega) ?_;intro A8 c8 w8 own8 G8 C8;have Zr:=aA (U_.out.grown G8.out (aN zaT.out.own U_.out (by decide)));have f8:w8.frozen? ⟨ob,0,none⟩=false:=Zr.out.frozen 0;have c8':w8.cell? ⟨ob,0,none⟩=some (.slice AF i cF):=Zr.out.cell 0)
   have vb:=aA (own8.out.far Zr.out (by decide) 0 (.slice A8 (i+1) c8))
   have zah:=aA (Zr.out.set_ 0 (.slice A8 (i+1) c8))
   have W7:=aA (((aF.of Nn.out (B:=fun b=>PF b∨b=ob)).trans (C8.out.mono fun b hb _=>.inl hb:aF (fun b=>PF b∨b=ob) _ _) fun _ h _=>h).trans' (aF.setCell (B:=fun b=>PF b∨b=ob) (aF.refl _ w8) (p:=⟨ob,0,none⟩) (.inl (.inr rfl)) (.slice A8 (i+1) c8)))
   have jh:=aA (show ∀ b,PT b→¬ (PF b∨b=ob) from fun b h h2=>h2.elim (fun h3=>HD.out b h3 h) fun h3=>(HB.out b (.inr h)).2.2.2.2.1 h3)
   have Y_:=aA (zfR.out.chg W7.out jh.out)
   have zhm:=aA (zfP.out.mono fun cs x hx=>by
    obtain ⟨A,n,c,e,ho⟩:=hx
    exact ⟨A,n,c,e,ho.chg W7.out jh.out⟩ : gJ (fun w cs r=>∃ A n c,cs=[.slice A n c]∧aJ w PT 85 3 n (.slice A n c) (aO r)) 1 (w8.setCell ⟨ob,0,none⟩ (.slice A8 (i+1) c8)) cT2 (L.take i))
   have zbP:=aA (zbn.out.chg W7.out fun b hb hd=>hd.elim (fun h=>(HB.out b (.inl h)).2.2.2.1 hb) fun h=>by have h1:=hb.2;have h2:=wI.out;omega)
   have Uu:(w4.alloc (.cells #[.slice Ai r.length ci] 28)).heap.size=w4.heap.size+1:=World.size_alloc _ _
   have HS5b:=aA Uu
   rw [show ((#[Value.slice AF i cF,Value.slice AT i cT] : Array Value).setIfInBounds 0 (.slice A8 (i+1) c8)) = #[.slice A8 (i+1) c8,.slice AT i cT] from rfl] at zah
   generalize w8.setCell ⟨ob,0,none⟩ (.slice A8 (i+1) c8)=w9 at *
   clear o0 f8 c8' own8 G8 C8 Zr zaT e_ U_ dG Uu Nn
   have o1:w9.cell? ⟨ob,1,none⟩=some (.slice AT i cT):=zah.out.cell 1
   have o1:=aB o1
   have zb6:=aA (fun (w1:World) (h1:aD w9 w1)=>wZ (aO r) Ai r.length ci w1 ((aW.own zbP.out.own).2.ext h1) (fB r) (by have:=zbk.out;omega))
   have zdf:=Y_.out.cap
   refine aC 5 (by kernel_rfl) (by kernel_rfl) (by kernel_rfl) ?_
   iterate 3
    refine aK (by kernel_rfl) (by kernel_rfl) ?_
    apply Exists.intro
    refine ⟨fun w1 aT=>?_,fun K hK=>?_⟩
    ·go_simp;first | done | rfl
    go_simp;refine hK _ _ ?_;clear hK K
   refine cU [] (fun u w1=>∃ Ac cc,u=.slice Ac r.length cc∧w1.ownsRow w9.heap.size 85 3 (.slice Ac r.length cc) r.length (aO r)) (fun u w1 w2 _ h2 ⟨Ac,cc,h3,h4⟩=>⟨Ac,cc,h3,dX h4 h2⟩) rfl (by kernel_rfl) (fun w1 aT=>?_) ?_
   ·clear o1
    simp only [cN]
    go_simp
    refine ⟨aD.refl _,(zb6.out w1 aT).mono fun e w' h=>?_⟩
    obtain ⟨Ac,cc,rfl,h2,h3⟩:=h
    exact ⟨_,rfl,h3,Ac,cc,rfl,dI h2 aT.size⟩
   refine cU [39] (fun u w1=>∃ gc Ac cc,u=.slice (some ⟨gc,0,none⟩) 1 1∧aL w1 gc 28 #[.slice Ac r.length cc]∧w1.ownsRow w9.heap.size 85 3 (.slice Ac r.length cc) r.length (aO r)) (fun u w1 w2 _ h2 ⟨gc,Ac,cc,h3,h4,h5⟩=>⟨gc,Ac,cc,h3,h4.ext h2,dX h5 h2⟩) rfl (by kernel_rfl) (fun w1 aT=>?_) ?_
   ·clear o1
    simp only [cN]
    intro u hu
    obtain ⟨Ac,cc,rfl,h2⟩:=hu _ rfl
    clear hu
    go_simp
    exact ⟨aD.alloc _ _,Ac,cc,aL.new _ _ _,dX h2 (aD.alloc _ _)⟩
   refine aH ⟨rfl,by kernel_rfl,fun wa sW=>?_⟩
   simp only [bL]
   rintro _ ⟨gc,Ac,cc,rfl,hgc,dY⟩ _ _
   simp only [List.drop]
   clear o1
   have zbK:=aA sW
   have HTa:=aA (Y_.out.ext sW);have OBa:=aA (zah.out.ext sW);have HFa:=aA (vb.out.ext sW)
   have HEa:=aA (zhm.out.mono fun cs x hx=>by
    obtain ⟨A,n,c,e,ho⟩:=hx
    exact ⟨A,n,c,e,ho.ext sW⟩ : gJ (fun w cs r=>∃ A n c,cs=[.slice A n c]∧aJ w PT 85 3 n (.slice A n c) (aO r)) 1 wa cT2 (L.take i))
   have HSa:=aA (hgc.sl (n:=1) (size:=1) rfl)
   have HONa:=aA (show aQ [Value.slice Ac r.length cc] from fun v hv=>by simp at hv;rw [hv];rfl)
   have HRWa:=aA dY
   clear sW hgc dY
   go_wp2_with (at_builtin;refine aI rfl (.tmp 37) (.tmp 40) _ rfl PT 28 i0 _ 1 24 Tryz.underlying36 Cs.out.1 Cs.out.2.1 Cs.out.2.2.1 Cs.out.2.2.2 rfl (by omega) (.slice AT i cT) i cT2 rfl HTa.out _ 1 1 _ rfl HSa.out HONa.out (by unfold maxLen;omega) (by omega) ?_;intro A9 c9 wb own9 G9 C9;have OBb:=aA (OBa.out.grown G9.out (aN HTa.out.own OBa.out (by decide)));have f8:wb.frozen? ⟨ob,1,none⟩=false:=OBb.out.frozen 1;have c8':wb.cell? ⟨ob,1,none⟩=some (.slice AT i cT):=OBb.out.cell 1)
   go_roundw
   case rel=>
    have zar:=W7.out.size
    have zhh:=zbK.out.size
    have zgb:=C9.out.size
    have zbJ:(wb.setCell ⟨ob,1,none⟩ (.slice A9 (i+1) c9)).heap.size=wb.heap.size:=by simp
    have zg9:=uF.out.2.size
    have zao:=hCh.out.size
    have zgV:=iZ.out
    have zaD:∀ b,lab5.dom b→b<w4.heap.size:=fun b ⟨j,hj⟩=>R5.out.lt b j hj
    have hB:=HB.out
    have Si:∀ b,PF b∨PT b∨b=ob→¬ lab5.dom b:=fun b hb hd=>by
     rcases uF.out.1 b hd with h | h
     ·rcases hb with hb | hb | hb
      ·exact Wn.out b (.inl hb) h
      ·exact Wn.out b (.inr hb) h
      ·subst hb;exact zau.out h
     ·rcases hb with hb | hb | hb
      ·have:=hB b (.inl hb);omega
      ·have:=hB b (.inr hb);omega
      ·omega
    have CE:aF (fun b=>PF b∨PT b∨b=ob) w4 (wb.setCell ⟨ob,1,none⟩ (.slice A9 (i+1) c9)):=
     (((W7.out.mono fun b hb _=>hb.elim .inl fun h=>.inr (.inr h):aF (fun b=>PF b∨PT b∨b=ob) w4 w9).trans' (aF.of zbK.out)).trans' (C9.out.mono fun b hb _=>.inr (.inl hb))).trans' (aF.setCell (B:=fun b=>PF b∨PT b∨b=ob) (aF.refl _ wb) (p:=⟨ob,1,none⟩) (.inl (.inr (.inr rfl))) (.slice A9 (i+1) c9))
    have Ag:∀ b,PT b→b<wr.heap.size:=fun b hb=>(hB b (.inr hb)).2.1
    have Wf:∀ b,PF b→b<wr.heap.size:=fun b hb=>(hB b (.inl hb)).2.1
    have Uu:=HS5b.out
    have zfI:aJ (wb.setCell ⟨ob,1,none⟩ (.slice A9 (i+1) c9)) (fun b=>PF b∨(w4.heap.size≤b∧b<w9.heap.size)) 28 1 (i+1) (.slice A8 (i+1) c8) (cells.take (i+1)):=by
     have h1:aJ w9 (fun b=>PF b∨(w4.heap.size≤b∧b<w9.heap.size)) 28 1 (i+1) (.slice A8 (i+1) c8) (cells.take (i+1)):=by
      rw [List.take_add_one,zfY.out]
      exact ⟨vb.out.own,fun g hg=>(vb.out.inB g hg).imp id fun e=>⟨by omega,vb.out.lt g hg⟩⟩
     have h2:=(h1.ext zbK.out).chg C9.out fun b hb hp=>by
      rcases hb with hb | hb
      ·exact HD.out b hb hp
      ·have:=Ag b hp;omega
     exact h2.far OBb.out (by decide) 1 _
    have zfs:aJ (wb.setCell ⟨ob,1,none⟩ (.slice A9 (i+1) c9)) (fun b=>PT b∨(w9.heap.size≤b∧b<wb.heap.size)) 28 1 (i+1) (.slice A9 (i+1) c9) (cT2 ++ [.slice Ac r.length cc]):=
     (show aJ wb (fun b=>PT b∨(w9.heap.size≤b∧b<wb.heap.size)) 28 1 (i+1) (.slice A9 (i+1) c9) (cT2 ++ [.slice Ac r.length cc]) from ⟨own9.out.own,fun g hg=>(own9.out.inB g hg).imp id fun e=>⟨by omega,own9.out.lt g hg⟩⟩).far OBb.out (by decide) 1 _
    have Vr:aJ wa (fun b=>PT b∨(w9.heap.size≤b∧b<wb.heap.size)) 85 3 r.length (.slice Ac r.length cc) (aO r):=⟨dS HRWa.out (Nat.zero_le _),fun g hg=>.inr ⟨(HRWa.out.lt g hg).1,by have:=(HRWa.out.lt g hg).2;omega⟩⟩
    have zeK:gJ (fun w cs r=>∃ A n c,cs=[.slice A n c]∧aJ w (fun b=>PT b∨(w9.heap.size≤b∧b<wb.heap.size)) 85 3 n (.slice A n c) (aO r)) 1 (wb.setCell ⟨ob,1,none⟩ (.slice A9 (i+1) c9)) (cT2 ++ [.slice Ac r.length cc]) (L.take (i+1)):=by
     rw [show L.take (i+1)=L.take i ++ [r] by rw [List.take_add_one,HRr.out];rfl]
     refine (HEa.out.mono fun cs x hx=>?_).append (gJ.single rfl (fun v hv=>by obtain rfl:=List.mem_singleton.1 hv;rfl) ⟨Ac,r.length,cc,rfl,(Vr.grown HTa.out.own (by decide) G9.out).far OBb.out (by decide) 1 _⟩)
     obtain ⟨A,n,c,e,ho⟩:=hx
     exact ⟨A,n,c,e,((ho.grown HTa.out.own (by decide) G9.out).far OBb.out (by decide) 1 _).mono fun b h=>.inl h⟩
    refine ⟨i+1,lab5,by omega,by go_num,R5.out.chg CE fun b hb hc=>Si b hc hb,(jw.out (i+1)).chg _ _ _ _ G5.out CE (fun b hb hc=>Si b hc ⟨1,hb⟩),fun b hd=>?_,⟨A8,c8,A9,c9,_,_,_,OBb.out.set_ 1 _,zfI,zfs,zeK,xf.out.push (fun u hu g hg e=>?_),fun b h1 h2=>?_,fun b hb=>?_⟩,?_⟩
    ·rcases uF.out.1 b hd with h | h
     ·exact hSt.out b h
     ·exact .inr (by omega)
    ·have h1:=Xf HEa.out u hu g hg
     have h2:=(HRWa.out.lt g e).1
     have:=Ag g h1;omega
    ·rcases h1 with h1 | h1
     ·rcases h2 with h2 | h2
      ·exact HD.out b h1 h2
      ·have:=Wf b h1;omega
     ·rcases h2 with h2 | h2
      ·have:=Ag b h2;omega
      ·omega
    ·rw [zbJ]
     have zdC:=Si b
     have zd7:=zaD b
     have Yl:Rg T w2.heap.size b→b<w2.heap.size:=fun h=>h.2
     have Ol:=E3.out.size
     rcases hb with (hb | hb) | (hb | hb)
     ·have h:=hB b (.inl hb);exact ⟨h.1,by omega,zdC (.inl hb),h.2.2.2.1,h.2.2.2.2⟩
     ·exact ⟨by omega,by omega,fun hd=>by have:=zd7 hd;omega,fun h=>by have:=Yl h;omega,by omega,by omega⟩
     ·have h:=hB b (.inr hb);exact ⟨h.1,by omega,zdC (.inr (.inl hb)),h.2.2.2.1,h.2.2.2.2⟩
     ·exact ⟨by omega,by omega,fun hd=>by have:=zd7 hd;omega,fun h=>by have:=Yl h;omega,by omega,by omega⟩
    ·refine ((hCh.out.trans uF.out.2 fun g hg hl=>(hSt.out g hg).elim .inl fun h=>by omega).trans CE fun g hg hl=>?_)
     rcases hg with hg | hg | hg
     ·have:=(hB g (.inl hg)).1;omega
     ·have:=(hB g (.inr hg)).1;omega
     ·exact .inr hg
   case measure=>simp [intOf];omega
  ·obtain rfl:i=L.length:=by omega
   obtain ⟨AF,cF,AT,cT,PF,PT,cT2,xW,hF,hT,hTe,hTa,hd,hb⟩:=hM.out.out
   have vu:=aA xW;have HF:=aA hF;have zaH:=aA hT;have zm:=aA hTe;have xf:=aA hTa;have HD:=aA hd;have HB:=aA hb
   clear xW hF hT hTe hTa hd hb
   have RBr:=aA (hCh.out.blk zg4.out fun h=>h.elim Za.out fun e=>by have:=iZ.out;have:=wI.out;omega)
   have Jq:∀ b,Rg T w2.heap.size b→¬ (lab2.dom b∨b=ob):=fun b hb hd=>by
    have h1:=hb.1;have h2:=hb.2;have h3:=wI.out
    rcases hd with hd | hd
    ·have:=HT.out.1 b hd;omega
    ·omega
   have xJ:∀ b,Rg T w2.heap.size b→¬ lab4.dom b:=fun b hb hd=>by
    rcases hSt.out b hd with h | h
    ·exact Jq b hb (.inl h)
    ·have h2:=hb.2;have h3:=E3.out.size;omega
   have yT:=aA Jq;have Ml:=aA xJ
   have o0:wr.cell? ⟨ob,0,none⟩=some (.slice AF L.length cF):=vu.out.cell 0
   have o1:wr.cell? ⟨ob,1,none⟩=some (.slice AT L.length cT):=vu.out.cell 1
   have f0:=RBr.out.frozen 0
   have f1:=RBr.out.frozen 1
   have c0:_=some (Value.slice none 0 0):=RBr.out.cell 0
   have c1:_=some (Value.slice none 0 0):=RBr.out.cell 1
   clear Jq xJ
   go_wp2_with fail
   have R:=(aU RBr.out (.slice AF L.length cF) (.slice AT L.length cT))
   have r0:=R.cell 0
   have r1:=R.cell 1
   refine bodyPost_ret (v:=.agg #[.slice AF L.length cF,.slice AT L.length cT]) (by simp [results,Tryz.results134,go_sem,r0,r1]) rfl ?_
   have hB:=HB.out
   have zjR:=HT.out
   have oZ:=iZ.out
   have zgk:=HE.out.size
   have zg7:=E3.out.size
   have zao:=hCh.out.size
   have xW:=wI.out
   have Xp:¬ lab4.dom rb:=fun hd=>(hSt.out rb hd).elim Za.out fun h=>by omega
   have CE:aF (fun b=>b=rb) wr ((wr.setCell ⟨rb,0,none⟩ (.slice AF L.length cF)).setCell ⟨rb,1,none⟩ (.slice AT L.length cT)):=(eW wr rb 0 _).trans' (eW _ rb 1 _)
   have zb1:∀ b,PF b∨Rg T w2.heap.size b→w.heap.size≤b∧b<wr.heap.size∧¬ lab4.dom b∧b≠rb:=fun b hb=>by
    rcases hb with hb | hb
    ·have h:=hB b (.inl hb);exact ⟨by omega,h.2.1,h.2.2.1,h.2.2.2.2.2⟩
    ·have h1:=hb.1;have h2:=hb.2;exact ⟨by omega,by omega,Ml.out b hb,by omega⟩
   have zan:∀ b,PT b→w.heap.size≤b∧b<wr.heap.size∧¬ lab4.dom b∧b≠rb:=fun b hb=>by
    have h:=hB b (.inr hb);exact ⟨by omega,h.2.1,h.2.2.1,h.2.2.2.2.2⟩
   refine ⟨_,lab4,rfl,hR.out.chg CE fun b hb e=>Xp (e ▸ hb),(jw.out _).chg _ _ _ _ hG.out CE (fun b hb e=>Xp (e ▸ ⟨1,hb⟩)),⟨fun b hb=>?_,?_⟩,AF,cF,AT,cT,fun b=>PF b∨Rg T w2.heap.size b,PT,rfl,?_,?_,fun b h1 h2=>?_,fun b hb=>?_⟩
   ·rcases hSt.out b hb with h | h
    ·exact (fR.out.1 b h).imp id fun h=>by omega
    ·exact .inr (by omega)
   ·refine ((((aF.of HE.out (B:=lab.dom)).trans' fR.out.2).trans' (aF.of E3.out)).trans hCh.out fun g hg hl=>?_).trans CE fun g hg hl=>by have h1:g=rb:=hg;have h2:=HR.out;omega
    rcases hg with hg | hg
    ·exact (fR.out.1 g hg).resolve_right (by omega)
    ·omega
   ·refine ⟨rfl,cells,?_,?_,zw.out⟩
    ·have h:=HF.out
     rw [show cells.take L.length=cells by rw [← oR.out];exact List.take_length] at h
     exact (h.chg CE fun b hb e=>(zb1 b (.inl hb)).2.2.2 e).mono fun b h=>.inl h
    ·exact Bb oR.out fun j r hr=>by
      obtain ⟨Aj,cj,h1,h2⟩:=vU.out j r hr
      exact ⟨Aj,cj,h1,((h2.chg hCh.out yT.out).chg CE fun b hb e=>(zb1 b (.inr hb)).2.2.2 e).mono fun b h=>.inr h⟩
   ·refine ⟨rfl,cT2,zaH.out.chg CE fun b hb e=>(zan b hb).2.2.2 e,?_,xf.out⟩
    have h:=zm.out
    rw [List.take_length] at h
    refine h.mono fun cs x hx=>?_
    obtain ⟨A,n,c,e,ho⟩:=hx
    exact ⟨A,n,c,e,ho.chg CE fun b hb e=>(zan b hb).2.2.2 e⟩
   ·rcases h1 with h1 | h1
    ·exact HD.out b h1 h2
    ·exact (hB b (.inr h2)).2.2.2.1 h1
   ·have zar:=CE.size
    rcases hb with hb | hb
    ·have h:=zb1 b hb;exact ⟨h.1,by omega,h.2.2.1⟩
    ·have h:=zan b hb;exact ⟨h.1,by omega,h.2.2.1⟩
set_option maxRecDepth 100000 in
set_option maxHeartbeats 4000000 in
theorem Aa {w:World} {lab:aP} {K:NK} {v:eT} {a:aR} {N:Nat} {G:Nat→World→(Nat→Prop)→Prop} {key:List V} {L:List (List V)} (hL:gY (S2 K a) 0 key=L) (h:jD w lab K v a N) (hk:K.kind=3) (hN:N+1≤8796093022208) (hLl:L.length≤65536) (hLr:∀ r∈L,yL K.inn r)
 (kY:G 0 w (lab.own 1)) (hGc:∀ i,Qy (G i))
 (gW:∀ (i:Nat) (r:List V) (wr:World) (B:Nat→Prop) (A:Option Addr) (n c:Nat),L[i]?=some r→G i wr B→bD wr A n r→dR B A→Calls Tryz.prog 132 #[.pointer (some ⟨v.x1,0,none⟩),.slice A n c] wr fun e w'=>(∃ y,e=.returned y)∧∃ B',G (i+1) w' B'∧(∀ b,B' b→B b∨wr.heap.size≤b)∧(∀ b,B' b→b<w'.heap.size)∧aF B wr w')
 (Dy:K.inn≤30) {A:Option Addr} {n:Nat} (c:Nat) (ha:bD w A n key) :
 Calls Tryz.prog 134 #[.pointer (some ⟨v.k,0,none⟩),.slice A n c,.func (.func 132) #[.pointer (some ⟨v.x1,0,none⟩)] #[]] w fun e w'=>∃ y lab',e=.returned y∧jD w' lab' K v a (N+1)∧G L.length w' (lab'.own 1)∧eU w lab w' lab'∧cD w.heap.size lab'.dom w' L L y:=by
 have fM:=aD.alloc w (.cells #[.slice none 0 0,.slice none 0 0] 38)
 have h1:=h.ext fM
 have It:=wK (h1.part 2 hk) (by omega) (k:=0) (by exact Nat.zero_lt_one) c (ha.ext fM)
 rw [hL,show (Value.int .i64 ((0:Nat):Int))=.int .i64 0 from rfl] at It
 have HG:=aA It
 have RB:=aA (aL.new w 38 #[.slice none 0 0,.slice none 0 0])
 have k1:=(h1.meet hk).2.1
 have R1:=aA h1;have G1:=aA ((hGc 0).chg _ _ _ _ kY (aF.of fM (B:=fun _=>False)) fun _ _ x=>x)
 have HE:=aA fM;have dH:=aA (show ¬ lab.dom w.heap.size from fun ⟨i,hi⟩=>by have:=h.lt _ _ hi;omega)
 have jw:=aA hGc;have Wj:=aA gW;have zgA:=aA hLr
 clear h ha kY h1 fM It hGc gW hLr hL
 obtain ⟨rb,gU⟩ : ∃ rb,w.heap.size=rb:=⟨_,rfl⟩
 have HR:=aA (Nat.le_of_eq gU)
 rw [gU] at RB dH
 go_enter Tryz.func134,Tryz.ntmps134
 go_upto_region 1 with fail
 generalize aT:w.alloc (.cells #[.slice none 0 0,.slice none 0 0] 38)=w1 at *
 clear gU aT
 go_upto_region 3 with ((with_reducible refine HG.out.mono ?_);rintro e w2 ⟨A1,c1,rfl,T,hm,hs⟩;obtain ⟨lab2,r2,g2,st2,dT,tT,tS⟩:=R1.out.groupM (jw.out 0) G1.out (Nat.le_succ N) hs;have zea:=aA hm;have R2:=aA r2;have G2:=aA g2;have fR:=aA st2;have HT:=aA (And.intro dT (And.intro tT tS));clear hm hs r2 g2 st2 dT tT tS)
 have E3:=aA (aD.alloc w2 (.cells #[.slice none 0 0,.slice none 0 0] 38))
 have OB:=aA (aL.new w2 38 #[.slice none 0 0,.slice none 0 0])
 obtain ⟨ob,xW⟩ : ∃ ob,w2.heap.size=ob:=⟨_,rfl⟩
 have told:=zea.out.toldA (P:=Rg T w2.heap.size) fun b h1 h2=>⟨h1,h2⟩
 obtain ⟨cells,qC,cH,hap,dY⟩:=(told.ext E3.out).cells
 have oR:=aA qC;have zdh:=aA cH;have zw:=aA hap;have vU:=aA dY
 have wI:=aA (Nat.le_of_eq xW);have zdH:=aA (Nat.le_of_eq xW.symm)
 rw [xW] at OB ⊢
 generalize w2.alloc (.cells #[.slice none 0 0,.slice none 0 0] 38)=w3 at *
 clear xW told qC cH hap dY k1 zea
 have R3:=aA (R2.out.ext E3.out)
 have G3:=aA ((jw.out 0).chg _ _ _ _ G2.out (aF.of E3.out (B:=fun _=>False)) fun _ _ x=>x)
 have iZ:=aA (show rb<w1.heap.size∧w1.heap.size≤w2.heap.size∧ob<w3.heap.size from ⟨RB.out.lt,fR.out.2.size,OB.out.lt⟩)
 have zb3:=aA (show ¬ lab2.dom ob from fun hd=>by have:=R2.out.lt _ _ hd.choose_spec;have:=wI.out;omega)
 have zg4:=aA ((fR.out.2.blk RB.out dH.out).ext E3.out)
 have Za:=aA (iW fR.out dH.out RB.out.lt)
 go_wp2_with fail
 go_loopw [11,23] (fun _ s23 w'=>∃ (i:Nat) (lab4:aP),i≤L.length∧s23=.int .i64 i∧Hid (jD w' lab4 K v a (N+1))∧Hid (G i w' (lab4.own 1))∧Hid (∀ b,lab4.dom b→lab2.dom b∨w3.heap.size≤b)∧Hid (ziu w3 w' lab4.dom (Rg T w2.heap.size) ob rb i L cells)∧Hid (aF (fun b=>lab2.dom b∨b=ob) w3 w')) (fun _ s23 _=>L.length - (intOf s23).toNat)
 case atStart=>
  refine ⟨0,lab2,by omega,rfl,R3,G3,(fun _ h=>.inl h),⟨none,0,none,0,fun _=>False,fun _=>False,[],OB.out,aJ.nil _ _ _ _,aJ.nil _ _ _ _,.nil,by unfold pV;exact .nil,fun _ h=>h.elim,fun _ h=>h.elim (fun h=>h.elim) fun h=>h.elim⟩,aF.refl _ _⟩
 case round=>
  obtain ⟨i,lab4,hi,rfl,hR,hG,hSt,hM,hCh⟩:=hrel
  by_cases j0:i<L.length
  ·obtain ⟨AF,cF,AT,cT,PF,PT,cT2,xW,hF,hT,hTe,hTa,hd,hb⟩:=hM.out.out
   have vu:=aA xW;have HF:=aA hF;have zaH:=aA hT;have zm:=aA hTe;have xf:=aA hTa;have HD:=aA hd;have HB:=aA hb
   clear xW hF hT hTe hTa hd hb
   obtain ⟨r,hr⟩ : ∃ r,L[i]?=some r:=⟨_,List.getElem?_eq_getElem j0⟩
   obtain ⟨Ai,ci,Tb,Pc⟩:=vU.out i r hr
   have HRr:=aA hr;have zfY:=aA Tb
   have dW:=zgA.out r (List.mem_of_getElem? hr)
   have Jq:∀ b,Rg T w2.heap.size b→¬ (lab2.dom b∨b=ob):=fun b hb hd=>by
    have h1:=hb.1;have h2:=hb.2;have h3:=wI.out
    rcases hd with hd | hd
    ·have:=HT.out.1 b hd;omega
    ·omega
   have xJ:∀ b,Rg T w2.heap.size b→¬ lab4.dom b:=fun b hb hd=>by
    rcases hSt.out b hd with h | h
    ·exact Jq b hb (.inl h)
    ·have h2:=hb.2;have h3:=E3.out.size;omega
   have Ml:=aA xJ
   have Md:=aA (Pc.chg hCh.out Jq)
   have HOWr:=aA (zdh.out.chg hCh.out Jq)
   obtain ⟨gb,hA1,hgb,nD,hgc,hgf⟩:=HOWr.out.at_ (by omega)
   subst hA1
   have e0:wr.cell? ⟨gb,i,none⟩=some (.slice Ai r.length ci):=hgc i _ Tb
   have cZ:r.length≤1048576:=by
    have h1:=dW.1
    unfold aV at h1
    rw [Bool.and_eq_true,decide_eq_true_eq] at h1
    omega
   have Uf:=aA (show bD wr Ai r.length r from ⟨aW.own Md.out.own,cZ,dW.2.1,dW.2.2⟩)
   have lY:=aA (show dR (lab4.own 1) Ai from fun x hx hb=>xJ _ (Md.out.inB x.block (by rw [hx];rfl)) ⟨1,hb⟩)
   have HC:=aA (Wj.out i r wr (lab4.own 1) Ai r.length ci hr hG.out Uf.out lY.out)
   have zbk:=aA cZ
   clear hr Tb Pc dW Jq xJ hgb nD hgc hgf cZ
   go_upto_region 7 with ((with_reducible refine HC.out.mono ?_);rintro e w4 ⟨⟨y,rfl⟩,B',g1,g2,g3,g4⟩;obtain ⟨lab5,r5,g5,st5⟩:=hR.out.liveG (jw.out (i+1)) g1 g2 g3 g4;have R5:=aA r5;have G5:=aA g5;have uF:=aA st5;clear g1 g2 g3 g4 r5 g5 st5)
   have Ph:¬ lab4.dom ob:=fun hd=>by
    rcases hSt.out ob hd with h | h
    ·exact zb3.out h
    ·have:=iZ.out;omega
   have r7:∀ b,PF b∨PT b→¬ lab4.dom b:=fun b h=>(HB.out b h).2.2.1
   have zdO:=aA (uF.out.2.blk vu.out Ph)
   have zbt:=HF.out.chg uF.out.2 fun b h=>r7 b (.inl h)
   have zfR:=aA (zaH.out.chg uF.out.2 fun b h=>r7 b (.inr h))
   have zfP:=aA (zm.out.mono fun cs x hx=>by
    obtain ⟨A,n,c,e,ho⟩:=hx
    exact ⟨A,n,c,e,ho.chg uF.out.2 fun b h=>r7 b (.inr h)⟩ : gJ (fun w cs r=>∃ A n c,cs=[.slice A n c]∧aJ w PT 85 3 n (.slice A n c) (aO r)) 1 w4 cT2 (L.take i))
   have zbn:=aA (Md.out.chg uF.out.2 Ml.out)
   have zau:=aA Ph;have Wn:=aA r7
   have o0:w4.cell? ⟨ob,0,none⟩=some (.slice AF i cF):=zdO.out.cell 0
   have π:=aD.alloc w4 (.cells #[.slice Ai r.length ci] 28)
   have zaT:=aA (zbt.ext π)
   have e_:=aA ((aL.new w4 28 #[.slice Ai r.length ci]).sl (n:=1) (size:=1) rfl)
   have dG:=aA (show aQ [Value.slice Ai r.length ci] from fun v hv=>by simp at hv;rw [hv];rfl)
   have U_:=aA (zdO.out.ext π)
   have Nn:=aA π
   obtain ⟨i0,eQ,hz0,hz1,eO⟩:=info_parts Qd
   have Cs:=aA (And.intro eQ (And.intro hz0 (And.intro hz1 eO)))
   have Ec:=zbt.cap
   clear Ph r7 zbt π e0 HC
   go_upto_region 8 with (at_builtin;refine aI rfl (.tmp 31) (.tmp 33) _ rfl PF 28 i0 _ 1 24 Tryz.underlying36 Cs.out.1 Cs.out.2.1 Cs.out.2.2.1 Cs.out.2.2.2 rfl (by omega) (.slice AF i cF) i (cells.take i) rfl zaT.out _ 1 1 _ rfl e_.out dG.out (by unfold maxLen;omega) (by omega) ?_;intro A8 c8 w8 own8 G8 C8;have Zr:=aA (U_.out.grown G8.out (aN zaT.out.own U_.out (by decide)));have f8:w8.frozen? ⟨ob,0,none⟩=false:=Zr.out.frozen 0;have c8':w8.cell? ⟨ob,0,none⟩=some (.slice AF i cF):=Zr.out.cell 0)
   have vb:=aA (own8.out.far Zr.out (by decide) 0 (.slice A8 (i+1) c8))
   have zah:=aA (Zr.out.set_ 0 (.slice A8 (i+1) c8))
   have W7:=aA (((aF.of Nn.out (B:=fun b=>PF b∨b=ob)).trans (C8.out.mono fun b hb _=>.inl hb:aF (fun b=>PF b∨b=ob) _ _) fun _ h _=>h).trans' (aF.setCell (B:=fun b=>PF b∨b=ob) (aF.refl _ w8) (p:=⟨ob,0,none⟩) (.inl (.inr rfl)) (.slice A8 (i+1) c8)))
   have jh:=aA (show ∀ b,PT b→¬ (PF b∨b=ob) from fun b h h2=>h2.elim (fun h3=>HD.out b h3 h) fun h3=>(HB.out b (.inr h)).2.2.2.2.1 h3)
   have Y_:=aA (zfR.out.chg W7.out jh.out)
   have zhm:=aA (zfP.out.mono fun cs x hx=>by
    obtain ⟨A,n,c,e,ho⟩:=hx
    exact ⟨A,n,c,e,ho.chg W7.out jh.out⟩ : gJ (fun w cs r=>∃ A n c,cs=[.slice A n c]∧aJ w PT 85 3 n (.slice A n c) (aO r)) 1 (w8.setCell ⟨ob,0,none⟩ (.slice A8 (i+1) c8)) cT2 (L.take i))
   have zbP:=aA (zbn.out.chg W7.out fun b hb hd=>hd.elim (fun h=>(HB.out b (.inl h)).2.2.2.1 hb) fun h=>by have h1:=hb.2;have h2:=wI.out;omega)
   have Uu:(w4.alloc (.cells #[.slice Ai r.length ci] 28)).heap.size=w4.heap.size+1:=World.size_alloc _ _
   have HS5b:=aA Uu
   rw [show ((#[Value.slice AF i cF,Value.slice AT i cT] : Array Value).setIfInBounds 0 (.slice A8 (i+1) c8)) = #[.slice A8 (i+1) c8,.slice AT i cT] from rfl] at zah
   generalize w8.setCell ⟨ob,0,none⟩ (.slice A8 (i+1) c8)=w9 at *
   clear o0 f8 c8' own8 G8 C8 Zr zaT e_ U_ dG Uu Nn
   have o1:w9.cell? ⟨ob,1,none⟩=some (.slice AT i cT):=zah.out.cell 1
   have o1:=aB o1
   have zb6:=aA (fun (w1:World) (h1:aD w9 w1)=>wZ (aO r) Ai r.length ci w1 ((aW.own zbP.out.own).2.ext h1) (fB r) (by have:=zbk.out;omega))
   have zdf:=Y_.out.cap
   refine aC 5 (by kernel_rfl) (by kernel_rfl) (by kernel_rfl) ?_
   iterate 3
    refine aK (by kernel_rfl) (by kernel_rfl) ?_
    apply Exists.intro
    refine ⟨fun w1 aT=>?_,fun K hK=>?_⟩
    ·go_simp;first | done | rfl
    go_simp;refine hK _ _ ?_;clear hK K
   refine cU [] (fun u w1=>∃ Ac cc,u=.slice Ac r.length cc∧w1.ownsRow w9.heap.size 85 3 (.slice Ac r.length cc) r.length (aO r)) (fun u w1 w2 _ h2 ⟨Ac,cc,h3,h4⟩=>⟨Ac,cc,h3,dX h4 h2⟩) rfl (by kernel_rfl) (fun w1 aT=>?_) ?_
   ·clear o1
    simp only [cN]
    go_simp
    refine ⟨aD.refl _,(zb6.out w1 aT).mono fun e w' h=>?_⟩
    obtain ⟨Ac,cc,rfl,h2,h3⟩:=h
    exact ⟨_,rfl,h3,Ac,cc,rfl,dI h2 aT.size⟩
   refine cU [39] (fun u w1=>∃ gc Ac cc,u=.slice (some ⟨gc,0,none⟩) 1 1∧aL w1 gc 28 #[.slice Ac r.length cc]∧w1.ownsRow w9.heap.size 85 3 (.slice Ac r.length cc) r.length (aO r)) (fun u w1 w2 _ h2 ⟨gc,Ac,cc,h3,h4,h5⟩=>⟨gc,Ac,cc,h3,h4.ext h2,dX h5 h2⟩) rfl (by kernel_rfl) (fun w1 aT=>?_) ?_
   ·clear o1
    simp only [cN]
    intro u hu
    obtain ⟨Ac,cc,rfl,h2⟩:=hu _ rfl
    clear hu
    go_simp
    exact ⟨aD.alloc _ _,Ac,cc,aL.new _ _ _,dX h2 (aD.alloc _ _)⟩
   refine aH ⟨rfl,by kernel_rfl,fun wa sW=>?_⟩
   simp only [bL]
   rintro _ ⟨gc,Ac,cc,rfl,hgc,dY⟩ _ _
   simp only [List.drop]
   clear o1
   have zbK:=aA sW
   have HTa:=aA (Y_.out.ext sW);have OBa:=aA (zah.out.ext sW);have HFa:=aA (vb.out.ext sW)
   have HEa:=aA (zhm.out.mono fun cs x hx=>by
    obtain ⟨A,n,c,e,ho⟩:=hx
    exact ⟨A,n,c,e,ho.ext sW⟩ : gJ (fun w cs r=>∃ A n c,cs=[.slice A n c]∧aJ w PT 85 3 n (.slice A n c) (aO r)) 1 wa cT2 (L.take i))
   have HSa:=aA (hgc.sl (n:=1) (size:=1) rfl)
   have HONa:=aA (show aQ [Value.slice Ac r.length cc] from fun v hv=>by simp at hv;rw [hv];rfl)
   have HRWa:=aA dY
   clear sW hgc dY
   go_wp2_with (at_builtin;refine aI rfl (.tmp 37) (.tmp 40) _ rfl PT 28 i0 _ 1 24 Tryz.underlying36 Cs.out.1 Cs.out.2.1 Cs.out.2.2.1 Cs.out.2.2.2 rfl (by omega) (.slice AT i cT) i cT2 rfl HTa.out _ 1 1 _ rfl HSa.out HONa.out (by unfold maxLen;omega) (by omega) ?_;intro A9 c9 wb own9 G9 C9;have OBb:=aA (OBa.out.grown G9.out (aN HTa.out.own OBa.out (by decide)));have f8:wb.frozen? ⟨ob,1,none⟩=false:=OBb.out.frozen 1;have c8':wb.cell? ⟨ob,1,none⟩=some (.slice AT i cT):=OBb.out.cell 1)
   go_roundw
   case rel=>
    have zar:=W7.out.size
    have zhh:=zbK.out.size
    have zgb:=C9.out.size
    have zbJ:(wb.setCell ⟨ob,1,none⟩ (.slice A9 (i+1) c9)).heap.size=wb.heap.size:=by simp
    have zg9:=uF.out.2.size
    have zao:=hCh.out.size
    have zgV:=iZ.out
    have zaD:∀ b,lab5.dom b→b<w4.heap.size:=fun b ⟨j,hj⟩=>R5.out.lt b j hj
    have hB:=HB.out
    have Si:∀ b,PF b∨PT b∨b=ob→¬ lab5.dom b:=fun b hb hd=>by
     rcases uF.out.1 b hd with h | h
     ·rcases hb with hb | hb | hb
      ·exact Wn.out b (.inl hb) h
      ·exact Wn.out b (.inr hb) h
      ·subst hb;exact zau.out h
     ·rcases hb with hb | hb | hb
      ·have:=hB b (.inl hb);omega
      ·have:=hB b (.inr hb);omega
      ·omega
    have CE:aF (fun b=>PF b∨PT b∨b=ob) w4 (wb.setCell ⟨ob,1,none⟩ (.slice A9 (i+1) c9)):=
     (((W7.out.mono fun b hb _=>hb.elim .inl fun h=>.inr (.inr h):aF (fun b=>PF b∨PT b∨b=ob) w4 w9).trans' (aF.of zbK.out)).trans' (C9.out.mono fun b hb _=>.inr (.inl hb))).trans' (aF.setCell (B:=fun b=>PF b∨PT b∨b=ob) (aF.refl _ wb) (p:=⟨ob,1,none⟩) (.inl (.inr (.inr rfl))) (.slice A9 (i+1) c9))
    have Ag:∀ b,PT b→b<wr.heap.size:=fun b hb=>(hB b (.inr hb)).2.1
    have Wf:∀ b,PF b→b<wr.heap.size:=fun b hb=>(hB b (.inl hb)).2.1
    have Uu:=HS5b.out
    have zfI:aJ (wb.setCell ⟨ob,1,none⟩ (.slice A9 (i+1) c9)) (fun b=>PF b∨(w4.heap.size≤b∧b<w9.heap.size)) 28 1 (i+1) (.slice A8 (i+1) c8) (cells.take (i+1)):=by
     have h1:aJ w9 (fun b=>PF b∨(w4.heap.size≤b∧b<w9.heap.size)) 28 1 (i+1) (.slice A8 (i+1) c8) (cells.take (i+1)):=by
      rw [List.take_add_one,zfY.out]
      exact ⟨vb.out.own,fun g hg=>(vb.out.inB g hg).imp id fun e=>⟨by omega,vb.out.lt g hg⟩⟩
     have h2:=(h1.ext zbK.out).chg C9.out fun b hb hp=>by
      rcases hb with hb | hb
      ·exact HD.out b hb hp
      ·have:=Ag b hp;omega
     exact h2.far OBb.out (by decide) 1 _
    have zfs:aJ (wb.setCell ⟨ob,1,none⟩ (.slice A9 (i+1) c9)) (fun b=>PT b∨(w9.heap.size≤b∧b<wb.heap.size)) 28 1 (i+1) (.slice A9 (i+1) c9) (cT2 ++ [.slice Ac r.length cc]):=
     (show aJ wb (fun b=>PT b∨(w9.heap.size≤b∧b<wb.heap.size)) 28 1 (i+1) (.slice A9 (i+1) c9) (cT2 ++ [.slice Ac r.length cc]) from ⟨own9.out.own,fun g hg=>(own9.out.inB g hg).imp id fun e=>⟨by omega,own9.out.lt g hg⟩⟩).far OBb.out (by decide) 1 _
    have Vr:aJ wa (fun b=>PT b∨(w9.heap.size≤b∧b<wb.heap.size)) 85 3 r.length (.slice Ac r.length cc) (aO r):=⟨dS HRWa.out (Nat.zero_le _),fun g hg=>.inr ⟨(HRWa.out.lt g hg).1,by have:=(HRWa.out.lt g hg).2;omega⟩⟩
    have zeK:gJ (fun w cs r=>∃ A n c,cs=[.slice A n c]∧aJ w (fun b=>PT b∨(w9.heap.size≤b∧b<wb.heap.size)) 85 3 n (.slice A n c) (aO r)) 1 (wb.setCell ⟨ob,1,none⟩ (.slice A9 (i+1) c9)) (cT2 ++ [.slice Ac r.length cc]) (L.take (i+1)):=by
     rw [show L.take (i+1)=L.take i ++ [r] by rw [List.take_add_one,HRr.out];rfl]
     refine (HEa.out.mono fun cs x hx=>?_).append (gJ.single rfl (fun v hv=>by obtain rfl:=List.mem_singleton.1 hv;rfl) ⟨Ac,r.length,cc,rfl,(Vr.grown HTa.out.own (by decide) G9.out).far OBb.out (by decide) 1 _⟩)
     obtain ⟨A,n,c,e,ho⟩:=hx
     exact ⟨A,n,c,e,((ho.grown HTa.out.own (by decide) G9.out).far OBb.out (by decide) 1 _).mono fun b h=>.inl h⟩
    refine ⟨i+1,lab5,by omega,by go_num,R5.out.chg CE fun b hb hc=>Si b hc hb,(jw.out (i+1)).chg _ _ _ _ G5.out CE (fun b hb hc=>Si b hc ⟨1,hb⟩),fun b hd=>?_,⟨A8,c8,A9,c9,_,_,_,OBb.out.set_ 1 _,zfI,zfs,zeK,xf.out.push (fun u hu g hg e=>?_),fun b h1 h2=>?_,fun b hb=>?_⟩,?_⟩
    ·rcases uF.out.1 b hd with h | h
     ·exact hSt.out b h
     ·exact .inr (by omega)
    ·have h1:=Xf HEa.out u hu g hg
     have h2:=(HRWa.out.lt g e).1
     have:=Ag g h1;omega
    ·rcases h1 with h1 | h1
     ·rcases h2 with h2 | h2
      ·exact HD.out b h1 h2
      ·have:=Wf b h1;omega
     ·rcases h2 with h2 | h2
      ·have:=Ag b h2;omega
      ·omega
    ·rw [zbJ]
     have zdC:=Si b
     have zd7:=zaD b
     have Yl:Rg T w2.heap.size b→b<w2.heap.size:=fun h=>h.2
     have Ol:=E3.out.size
     rcases hb with (hb | hb) | (hb | hb)
     ·have h:=hB b (.inl hb);exact ⟨h.1,by omega,zdC (.inl hb),h.2.2.2.1,h.2.2.2.2⟩
     ·exact ⟨by omega,by omega,fun hd=>by have:=zd7 hd;omega,fun h=>by have:=Yl h;omega,by omega,by omega⟩
     ·have h:=hB b (.inr hb);exact ⟨h.1,by omega,zdC (.inr (.inl hb)),h.2.2.2.1,h.2.2.2.2⟩
     ·exact ⟨by omega,by omega,fun hd=>by have:=zd7 hd;omega,fun h=>by have:=Yl h;omega,by omega,by omega⟩
    ·refine ((hCh.out.trans uF.out.2 fun g hg hl=>(hSt.out g hg).elim .inl fun h=>by omega).trans CE fun g hg hl=>?_)
     rcases hg with hg | hg | hg
     ·have:=(hB g (.inl hg)).1;omega
     ·have:=(hB g (.inr hg)).1;omega
     ·exact .inr hg
   case measure=>simp [intOf];omega
  ·obtain rfl:i=L.length:=by omega
   obtain ⟨AF,cF,AT,cT,PF,PT,cT2,xW,hF,hT,hTe,hTa,hd,hb⟩:=hM.out.out
   have vu:=aA xW;have HF:=aA hF;have zaH:=aA hT;have zm:=aA hTe;have xf:=aA hTa;have HD:=aA hd;have HB:=aA hb
   clear xW hF hT hTe hTa hd hb
   have RBr:=aA (hCh.out.blk zg4.out fun h=>h.elim Za.out fun e=>by have:=iZ.out;have:=wI.out;omega)
   have Jq:∀ b,Rg T w2.heap.size b→¬ (lab2.dom b∨b=ob):=fun b hb hd=>by
    have h1:=hb.1;have h2:=hb.2;have h3:=wI.out
    rcases hd with hd | hd
    ·have:=HT.out.1 b hd;omega
    ·omega
   have xJ:∀ b,Rg T w2.heap.size b→¬ lab4.dom b:=fun b hb hd=>by
    rcases hSt.out b hd with h | h
    ·exact Jq b hb (.inl h)
    ·have h2:=hb.2;have h3:=E3.out.size;omega
   have yT:=aA Jq;have Ml:=aA xJ
   have o0:wr.cell? ⟨ob,0,none⟩=some (.slice AF L.length cF):=vu.out.cell 0
   have o1:wr.cell? ⟨ob,1,none⟩=some (.slice AT L.length cT):=vu.out.cell 1
   have f0:=RBr.out.frozen 0
   have f1:=RBr.out.frozen 1
   have c0:_=some (Value.slice none 0 0):=RBr.out.cell 0
   have c1:_=some (Value.slice none 0 0):=RBr.out.cell 1
   clear Jq xJ
   go_wp2_with fail
   have R:=(aU RBr.out (.slice AF L.length cF) (.slice AT L.length cT))
   have r0:=R.cell 0
   have r1:=R.cell 1
   refine bodyPost_ret (v:=.agg #[.slice AF L.length cF,.slice AT L.length cT]) (by simp [results,Tryz.results134,go_sem,r0,r1]) rfl ?_
   have hB:=HB.out
   have zjR:=HT.out
   have oZ:=iZ.out
   have zgk:=HE.out.size
   have zg7:=E3.out.size
   have zao:=hCh.out.size
   have xW:=wI.out
   have Xp:¬ lab4.dom rb:=fun hd=>(hSt.out rb hd).elim Za.out fun h=>by omega
   have CE:aF (fun b=>b=rb) wr ((wr.setCell ⟨rb,0,none⟩ (.slice AF L.length cF)).setCell ⟨rb,1,none⟩ (.slice AT L.length cT)):=(eW wr rb 0 _).trans' (eW _ rb 1 _)
   have zb1:∀ b,PF b∨Rg T w2.heap.size b→w.heap.size≤b∧b<wr.heap.size∧¬ lab4.dom b∧b≠rb:=fun b hb=>by
    rcases hb with hb | hb
    ·have h:=hB b (.inl hb);exact ⟨by omega,h.2.1,h.2.2.1,h.2.2.2.2.2⟩
    ·have h1:=hb.1;have h2:=hb.2;exact ⟨by omega,by omega,Ml.out b hb,by omega⟩
   have zan:∀ b,PT b→w.heap.size≤b∧b<wr.heap.size∧¬ lab4.dom b∧b≠rb:=fun b hb=>by
    have h:=hB b (.inr hb);exact ⟨by omega,h.2.1,h.2.2.1,h.2.2.2.2.2⟩
   refine ⟨_,lab4,rfl,hR.out.chg CE fun b hb e=>Xp (e ▸ hb),(jw.out _).chg _ _ _ _ hG.out CE (fun b hb e=>Xp (e ▸ ⟨1,hb⟩)),⟨fun b hb=>?_,?_⟩,AF,cF,AT,cT,fun b=>PF b∨Rg T w2.heap.size b,PT,rfl,?_,?_,fun b h1 h2=>?_,fun b hb=>?_⟩
   ·rcases hSt.out b hb with h | h
    ·exact (fR.out.1 b h).imp id fun h=>by omega
    ·exact .inr (by omega)
   ·refine ((((aF.of HE.out (B:=lab.dom)).trans' fR.out.2).trans' (aF.of E3.out)).trans hCh.out fun g hg hl=>?_).trans CE fun g hg hl=>by have h1:g=rb:=hg;have h2:=HR.out;omega
    rcases hg with hg | hg
    ·exact (fR.out.1 g hg).resolve_right (by omega)
    ·omega
   ·refine ⟨rfl,cells,?_,?_,zw.out⟩
    ·have h:=HF.out
     rw [show cells.take L.length=cells by rw [← oR.out];exact List.take_length] at h
     exact (h.chg CE fun b hb e=>(zb1 b (.inl hb)).2.2.2 e).mono fun b h=>.inl h
    ·exact Bb oR.out fun j r hr=>by
      obtain ⟨Aj,cj,h1,h2⟩:=vU.out j r hr
      exact ⟨Aj,cj,h1,((h2.chg hCh.out yT.out).chg CE fun b hb e=>(zb1 b (.inr hb)).2.2.2 e).mono fun b h=>.inr h⟩
   ·refine ⟨rfl,cT2,zaH.out.chg CE fun b hb e=>(zan b hb).2.2.2 e,?_,xf.out⟩
    have h:=zm.out
    rw [List.take_length] at h
    refine h.mono fun cs x hx=>?_
    obtain ⟨A,n,c,e,ho⟩:=hx
    exact ⟨A,n,c,e,ho.chg CE fun b hb e=>(zan b hb).2.2.2 e⟩
   ·rcases h1 with h1 | h1
    ·exact HD.out b h1 h2
    ·exact (hB b (.inr h2)).2.2.2.1 h1
   ·have zar:=CE.size
    rcases hb with hb | hb
    ·have h:=zb1 b hb;exact ⟨h.1,by omega,h.2.2.1⟩
    ·have h:=zan b hb;exact ⟨h.1,by omega,h.2.2.1⟩
end Go.Proofs.YtahdiiaadjdmcaaGreat
namespace Go.Proofs.YtahdiiaadjdmcaaGreat
open Go.RowKit Classical
theorem Rc.mono {w:World} {B C:Nat→Prop} {x:Nat} {S:aY} {N:Nat} (h:Rc w B x S N) (hC:∀ g,B g→C g):Rc w C x S N:=by
 obtain ⟨lab,v,D,P0,F0,Y,h1,h2,h3⟩:=h
 exact ⟨lab,v,D,P0,F0,Y,h1,fun b hb=>hC b (h2 b hb),h3⟩
theorem Qm.mono {w:World} {B C:Nat→Prop} {x:Nat} {S:aY} {N:Nat} (h:Qm w B x S N) (hC:∀ g,B g→C g):Qm w C x S N:=by
 obtain ⟨lab,v,D,P0,F0,G,h1,h2,h3⟩:=h
 exact ⟨lab,v,D,P0,F0,G,h1,fun b hb=>hC b (h2 b hb),h3⟩
theorem Fg {l m:List (List V)} (hl:l.Nodup) (hs:∀ x∈l,x∈m):l.length≤m.length:=by
 induction l generalizing m with
 | nil=>exact Nat.zero_le _
 |cons a l ih=>
  rw [List.nodup_cons] at hl
  have ha:a∈m:=hs a (List.mem_cons_self ..)
  have h1:=ih hl.2 (m:=m.erase a) fun x hx=>by
   have aZ:x≠a:=fun e=>hl.1 (e ▸ hx)
   exact (List.mem_erase_of_ne aZ).2 (hs x (List.mem_cons_of_mem _ hx))
  have h2:=List.length_erase_of_mem ha
  have h3:0<m.length:=List.length_pos_of_mem ha
  simp only [List.length_cons];omega
theorem uV {K:NK} {s:cR} (h:iS K s) (r:List V):(aM K s r).Nodup:=h.nd.filter _
theorem B0 {K:NK} (hK:fN K) {s:cR} (h:iS K s) (r:List V):(aM K s r).length≤65536:=by
 have h1:(aM K s r).length≤s.ons.length:=List.length_filter_le _ _
 have:=h.most;have:=hK.most;omega
theorem pE {K:NK} {s:cR} (h:iS K s) (h3:K.kind=3) (r:List V):∀ x∈aM K s r,yL K.inn x:=fun x hx=>by
 have h1:=h.ons x (eJ.1 hx).1
 rw [show K.width=K.inn by unfold NK.width;rw [if_neg (by omega)]] at h1
 exact h1
def Vj (K:NK) (a:aR) (L:List (List V)) (i:Nat):aY:={S1 K a with rows:=a.now.live ++ L.take i}
theorem qq {K:NK} {a:aR} (h:iS K a.now) (h3:K.kind=3) {r:List V} (hr:r∉a.now.sides) {i:Nat} {x:List V} (hx:(aM K a.now r)[i]?=some x):(fP (Vj K a (aM K a.now r) i) x).1=Vj K a (aM K a.now r) (i+1):=by
 have hm:=eJ.1 (List.mem_of_getElem? hx)
 have hf:=pE h h3 r x (List.mem_of_getElem? hx)
 have Dy:(Vj K a (aM K a.now r) i).width=K.inn:=by show K.width=_;unfold NK.width;rw [if_neg (by omega)]
 have jP:=uV h r
 have sB:(aM K a.now r).take (i+1)=(aM K a.now r).take i ++ [x]:=by rw [List.take_add_one,hx];rfl
 have gH:(a.now.live ++ (aM K a.now r).take (i+1)).Nodup:=by
  rw [List.nodup_append]
  refine ⟨h.lnd,(List.take_sublist _ _).nodup jP,fun y hy z hz e=>?_⟩
  subst e
  have h1:=((h.meet h3 y).1 hy).2
  rw [(eJ.1 (List.mem_of_mem_take hz)).2] at h1
  exact hr h1
 have j8:x∉a.now.live ++ (aM K a.now r).take i:=fun Dt=>by
  rw [sB,← List.append_assoc,List.nodup_append] at gH
  exact gH.2.2 x Dt x (by simp) rfl
 have cZ:(a.now.live ++ (aM K a.now r).take (i+1)).length≤a.now.ons.length:=Fg gH fun y hy=>by
  rcases List.mem_append.1 hy with hy | hy
  ·exact ((h.meet h3 y).1 hy).1
  ·exact (eJ.1 (List.mem_of_mem_take hy)).1
 have zO:=h.most
 have F9:(a.now.live ++ (aM K a.now r).take i).length<K.most:=by
  rw [sB] at cZ
  simp only [List.length_append,List.length_singleton] at cZ ⊢
  omega
 unfold fP
 rw [show aV (Vj K a (aM K a.now r) i).width x=true by rw [Dy];exact hf.1,show (Vj K a (aM K a.now r) i).rows=a.now.live ++ (aM K a.now r).take i from rfl,bT.2 j8,show (Vj K a (aM K a.now r) i).most=K.most from rfl,if_pos F9]
 unfold Vj
 simp only [if_true,Bool.false_eq_true,if_false]
 rw [sB,List.append_assoc]
 rfl
noncomputable def Xd (K:NK) (a:aR) (L:List (List V)) (i:Nat):aY:={S1 K a with rows:=a.now.live.filter fun x=>decide (x∉L.take i)}
theorem Sp (K:NK) (a:aR) (L:List (List V)):Xd K a L 0=S1 K a:=by
 unfold Xd
 rw [show (a.now.live.filter fun x=>decide (x∉L.take 0))=a.now.live from List.filter_eq_self.2 fun x _=>by simp]
 rfl
theorem Zc {K:NK} {a:aR} (h:iS K a.now) (h3:K.kind=3) {r:List V} (hr:r∈a.now.sides) {i:Nat} {x:List V} (hx:(aM K a.now r)[i]?=some x):(eG (Xd K a (aM K a.now r) i) x).1=Xd K a (aM K a.now r) (i+1):=by
 have hm:=eJ.1 (List.mem_of_getElem? hx)
 have hf:=pE h h3 r x (List.mem_of_getElem? hx)
 have Dy:(Xd K a (aM K a.now r) i).width=K.inn:=by show K.width=_;unfold NK.width;rw [if_neg (by omega)]
 have jP:=uV h r
 have sB:(aM K a.now r).take (i+1)=(aM K a.now r).take i ++ [x]:=by rw [List.take_add_one,hx];rfl
 have zi3:x∉(aM K a.now r).take i:=fun Dt=>by
  have h1:((aM K a.now r).take (i+1)).Nodup:=(List.take_sublist _ _).nodup jP
  rw [sB,List.nodup_append] at h1
  exact h1.2.2 x Dt x (by simp) rfl
 have Yt:x∈a.now.live:=(h.meet h3 x).2 ⟨hm.1,by rw [hm.2];exact hr⟩
 have bE:x∈a.now.live.filter fun y=>decide (y∉(aM K a.now r).take i):=List.mem_filter.2 ⟨Yt,decide_eq_true zi3⟩
 unfold eG
 rw [show aV (Xd K a (aM K a.now r) i).width x=true by rw [Dy];exact hf.1,show (Xd K a (aM K a.now r) i).rows=a.now.live.filter fun y=>decide (y∉(aM K a.now r).take i) from rfl,bK.2 bE]
 unfold Xd
 simp only [if_true]
 rw [kU (h.lnd.filter _),List.filter_filter]
 congr 1
 apply List.filter_congr
 intro y hy
 rw [sB]
 by_cases e:y=x
 ·subst e;rw [bH];simp
 ·rw [cJ e];simp [e]
theorem vy {K:NK} {a:aR} (h:iS K a.now) (h3:K.kind=3) (r:List V):Xd K a (aM K a.now r) (aM K a.now r).length = {S1 K a with rows:=a.now.live.filter fun x=>!bP (aE K.side x) r}:=by
 have key:(a.now.live.filter fun x=>decide (x∉(aM K a.now r).take (aM K a.now r).length))=a.now.live.filter fun x=>!bP (aE K.side x) r:=by
  rw [List.take_length]
  apply List.filter_congr
  intro y hy
  have zb4:=(h.meet h3 y).1 hy
  by_cases e:aE K.side y=r
  ·rw [e,bH]
   simp [eJ,zb4.1,e]
  ·rw [cJ e]
   simp [eJ,e]
 unfold Xd
 rw [key]
theorem cD.weak {T T' rb:Nat} {D:Nat→Prop} {w:World} {F U:List (List V)} {y:Value} (h:cD T D w F U y) (hT:T'≤T) (gU:rb<T):cD T' (fun b=>D b∨b=rb) w F U y:=by
 obtain ⟨A,c,A2,c2,P,Q,e,h1,h2,h3,h4⟩:=h
 exact ⟨A,c,A2,c2,P,Q,e,h1,h2,h3,fun b hb=>by have:=h4 b hb;exact ⟨by omega,this.2.1,fun hd=>hd.elim this.2.2 fun e=>by omega⟩⟩
section
variable {w:World} {lab:aP} {K:NK} {v:eT} {a:aR} {N:Nat}
set_option maxRecDepth 100000 in
theorem Wl (h:jD w lab K v a N) (hK:fN K) (hk:K.kind=3) {r:List V} {A:Option Addr} {n:Nat} (c:Nat) (ha:bD w A n r) (hf:aV K.inn r=true) :
 Calls Tryz.prog 136 #[.pointer (some ⟨v.k,0,none⟩),.slice A n c] w fun e w'=>∃ A' c',e=.returned (.slice A' (aE K.side r).length c')∧bD w' A' (aE K.side r).length (aE K.side r)∧aD w w':=by
 have HP:=aA (zT r (K.side.map Int.ofNat) A v.sA n K.side.length c v.sC w ha.at_ h.sideN ha.len (by have:=hK.side.1;omega))
 have j2:=i7 hf ha.small ha.wf hK.side.1 hK.side.2
 have k0:=(h.meet hk).1
 have l3:=h.kind.2.2.2.2.2.1
 have HK:=aA j2
 have cZ:=aA (show (aE K.side r).length≤1048576 from by rw [j2.len];have:=hK.side.1;omega)
 clear h ha hf j2
 rw [show (aE K.side r)=(dZ r (K.side.map Int.ofNat)).1 from rfl] at *
 generalize dZ r (K.side.map Int.ofNat)=res at *
 obtain ⟨own,z⟩:=res
 go_enter Tryz.func136,Tryz.ntmps136
 go_wp2_with ((with_reducible refine HP.out.mono ?_);rintro e w2 ⟨A2,c2,rfl,h2,x2⟩;have O2:=aA h2;have X2:=aA x2;clear h2 x2)
 go_ret
 exact ⟨A2,c2,rfl,⟨aW.own O2.out,cZ.out,HK.out.small,HK.out.wf⟩,X2.out⟩
end
end Go.Proofs.YtahdiiaadjdmcaaGreat
