import Derived.Test.YtahdiiaadjdmcaaGreatGaC
import Derived.Test.YtahdiiaadjdmcaaGreatGaD
import Derived.TacticsInMore
import Derived.RangeFuncBox
namespace Go.Proofs.YtahdiiaadjdmcaaGreat
open Go.RowKit
theorem tV:∀ {L:List Nat} {i c:Nat},L.Nodup→L[i]?=some c→dQ L c=L[i+1]?
 | [],_,_,_,h=>by simp at h
 | [a],0,c,_,_=>by simp [dQ]
 | [a],i+1,c,_,h=>by simp at h
 |a :: b :: l,0,c,_,h=>by
  simp only [List.getElem?_cons_zero,Option.some.injEq] at h
  subst h
  simp [dQ]
 |a :: b :: l,i+1,c,jP,h=>by
  simp only [List.getElem?_cons_succ] at h
  have aZ:a≠c:=fun e=>by
   subst e
   exact (List.nodup_cons.1 jP).1 (List.mem_of_getElem? h)
  simp only [dQ]
  rw [if_neg aZ,tV (List.nodup_cons.1 jP).2 h]
  simp
def zcG:Value→Nat
 | .slice _ n _=>n
 | _=>0
theorem aJ.fq {S B:Nat→Prop} {base:Nat} {w w':World} {e:TypeId} {s n:Nat} {v:Value} {xs:List Value} (h:aJ w B e s n v xs) (k:Fq S base w w') (hS:∀ g,B g→¬ S g) (he:e≠28):aJ w' B e s n v xs:=
 ⟨Xw h.own k (fun g hg=>hS g (h.inB g hg)) he,h.inB⟩
theorem rU.fq {S B:Nat→Prop} {base:Nat} {w w':World} {x cells lists:Nat} {cont:Nat→List Nat} (h:rU w B x cells lists cont) (k:Fq S base w w') (hS:∀ g,B g→¬ S g):rU w' B x cells lists cont:=by
 obtain ⟨LA,cA,LE,cE,at_,en,h1,h2⟩:=h.mem
 exact ⟨⟨LA,cA,LE,cE,at_,en,⟨h1.blk.fq k (hS x h1.inB) (.inr (by decide)),h1.oA.fq k hS (by decide),h1.oE.fq k hS (by decide),h1.inB⟩,h2⟩,fun b hb=>Nat.lt_of_lt_of_le (h.lt b hb) k.size,h.cm,h.lm⟩
set_option maxRecDepth 100000 in
set_option maxHeartbeats 2000000 in
theorem Sf {w:World} {B SY:Nat→Prop} {x cells lists:Nat} {cont:Nat→List Nat} (h:rU w B x cells lists cont) {n:Nat} (hn:n<lists) (l gx gn:Nat) (hx:aL w gx 128 #[.pointer (some ⟨x,0,none⟩)]) (wT:aL w gn 3 #[.int .i64 n]) (y6:¬ B gx∧¬ B gn)
 (zdP:∀ g,SY g→g<w.heap.size∧¬ B g) (J:Nat→Nat→World→Prop) (hJ0:∀ M w1,w.heap.size≤M→M≤w1.heap.size→aF B w w1→J M 0 w1)
 (hY:∀ (M i c:Nat) (w1:World),w.heap.size≤M→M≤w1.heap.size→(cont n)[i]?=some c→J M i w1→Fq (fun g=>B g∨SY g) w.heap.size w w1→(∃ B',rU w1 B' x cells lists cont∧∀ b,B' b→(B b∨w.heap.size≤b)∧b<M)→∃ fn tmps assign body,(Instr.yield l #[.int .i64 c]).run Tryz.prog w1=.ok (.round l fn tmps assign body) w1∧
  RoundIn Fence.wide 0 Tryz.prog l fn tmps assign body w1 fun e w'=>Fq SY w.heap.size w1 w'∧e=.returned (.bool true)∧J M (i+1) w') :
 Calls Tryz.prog 99 #[.func (.yield l) #[] #[],.pointer (some ⟨gx,0,none⟩),.pointer (some ⟨gn,0,none⟩)] w fun e w'=>∃ M,e=.returned (.tuple #[])∧w.heap.size≤M∧M≤w'.heap.size∧J M (cont n).length w'∧Fq (fun g=>B g∨SY g) w.heap.size w w'∧∃ B',rU w' B' x cells lists cont∧∀ b,B' b→(B b∨w.heap.size≤b)∧b<M:=by
 obtain ⟨LA,cA,LE,cE,at_,en,h1,h2⟩:=h.mem
 have HL:=aA (v6 h1 h.lt h2 hn h.lm)
 have Ve:=h.cm;have Ej:=h.lm
 have x0:w.cell? ⟨gx,0,none⟩=some (.pointer (some ⟨x,0,none⟩)):=hx.cell 0
 have x1:w.cell? ⟨gn,0,none⟩=some (.int .i64 n):=wT.cell 0
 have HX:=aA hx;have kp:=aA y6;have zem:=aA zdP;have za4:=aA hJ0;have HY:=aA hY
 clear hY hJ0 zdP y6 wT hx h h1 h2
 obtain ⟨i0,eQ,hz0,hz1,eO⟩:=info_parts rB
 go_enter Tryz.func99,Tryz.ntmps99
 go_upto_region 2 with ((with_reducible refine HL.out.mono ?_);rintro e w1 ⟨g,cE',en',rfl,hG1,m7⟩;have wA:=aA hG1;clear hG1)
 clear HL
 obtain ⟨B1,m1,m2,m3⟩:=wA.out.mem
 obtain ⟨g2,eg,-,-,-,e0,-,e2,-⟩:=m1.end_ (List.getElem?_eq_getElem m7)
 obtain rfl:g=g2:=(by injection eg with eg;injection eg)
 rw [wA.out.ok.ends n _ (List.getElem?_eq_getElem m7)] at e0 e2
 dsimp only at e0 e2
 have Du:(cont n).length≤1048576:=by
  have hb:∀ y∈cont n,y<at_.length:=fun y hy=>(wA.out.ok.lt hy).1
  have h9:=kP _ _ (wA.out.ok.nd n) hb
  have:=wA.out.ok.cl
  omega
 have zik:(cont n).head?=(cont n)[0]?:=by cases cont n <;> rfl
 rw [zik] at e0
 have Cf:=aA (fun i c (hc:(cont n)[i]?=some c)=>tV (wA.out.ok.nd n) hc)
 have Zb:=aA (And.intro m1 (And.intro m2 m3))
 clear m1 m2 m3 eg zik
 have uE:=run_make (P:=Tryz.prog) (w:=w1) 23 3 i0 _ Tryz.underlying23 eQ hz0 .i64 .i64 0 ((cont n).length:Int) (by omega) (by omega) (by rw [eO];omega) (by omega)
 simp only [hz1,Int.toNat_natCast,Int.toNat_zero,Nat.mul_one,Value.cells] at uE
 have zdz:=aA (show (w1.alloc (.cells (madeCells #[Value.int .i64 0] (cont n).length) 3)).ownsRow w1.heap.size 3 1 (.slice (some ⟨w1.heap.size,0,none⟩) 0 (cont n).length) 0 [] from World.ownsRow_made w1 _ _ (Nat.le_refl _) (by unfold maxLen;omega) (by rw [size_madeCells,Nat.mul_one]))
 have zc5:=aA (aD.alloc w1 (.cells (madeCells #[Value.int .i64 0] (cont n).length) 3))
 have e0:=aB e0
 have e0:=e0 _ zc5.out
 clear x0 x1
 go_upto_region 4 with fail
 clear uE e2 e0
 have Bu:=aA (And.intro eQ (And.intro hz0 (And.intro hz1 eO)))
 clear eQ hz0 hz1 eO
 generalize w1.alloc (.cells (madeCells #[Value.int .i64 0] (cont n).length) 3)=w2 at *
 generalize zci:cont n=L at *
 have zht:=aA zci;clear zci
 go_loopw [6,7] (fun s6 s7 w'=>∃ (i:Nat) (A':Option Addr) (c':Nat),i≤L.length∧s6=.slice A' i c'∧s7=.int .i64 (oi L[i]?)∧Hid (w'.ownsRow w1.heap.size 3 1 (.slice A' i c') i (hZ (L.take i)))∧Hid (aD w1 w')) (fun s6 _ _=>L.length - zcG s6)
 case atStart=>exact ⟨0,some ⟨w1.heap.size,0,none⟩,L.length,by omega,rfl,rfl,zdz.out,zc5.out⟩
 case round=>
  obtain ⟨i,A',c',bE,rfl,rfl,hO,hX⟩:=hrel
  by_cases hi:i<L.length
  ·obtain ⟨c,hc⟩ : ∃ c,L[i]?=some c:=⟨_,List.getElem?_eq_getElem hi⟩
   have yq:c∈cont n:=by rw [zht.out];exact List.mem_of_getElem? hc
   have qH:=wA.out.ok.lnk n c yq
   rw [zht.out,Cf.out i c hc] at qH
   have qC:=(List.getElem?_eq_some_iff.1 qH).1
   obtain ⟨ga,hLA,-,-,-,-,-,k2,-⟩:=(Zb.out.1).lnk qH
   subst hLA
   dsimp only at k2
   have rV:w1.cell? ⟨gx,0,none⟩=some (.pointer (some ⟨x,0,none⟩)):=wA.out.chg.cell (HX.out.cell 0) kp.out.1
   have a1:w1.cell? ⟨x,1,none⟩=some (.slice (some ⟨ga,0,none⟩) at_.length cA):=Zb.out.1.blk.cell 1
   rw [hc,show oi (some c)=(c:Int) from rfl]
   have zeM:(0:Int)≤(c:Int):=by omega
   have HS:=aA (show Sl (wr.alloc (.cells #[.int .i64 (c:Int)] 3)) (some ⟨wr.heap.size,0,none⟩) 1 1 [.int .i64 (c:Int)] from (aL.new wr _ _).sl rfl)
   have dG:=aA (show aQ [Value.int .i64 (c:Int)] from fun v hv=>by simp at hv;rw [hv];rfl)
   have HO:=aA (dX hO.out (aD.alloc wr (.cells #[.int .i64 (c:Int)] 3)))
   have zkv:=aA (hX.out.trans (aD.alloc wr (.cells #[.int .i64 (c:Int)] 3)))
   have zjN:=aA (show hZ (L.take (i+1))=hZ (L.take i) ++ [.int .i64 (c:Int)] by rw [List.take_add_one,hc];simp [hZ])
   have ε:at_.length≤9223372036854775807:=by have:=wA.out.ok.cl;omega
   have G1:=aA (And.intro rV (And.intro a1 k2))
   clear qH yq hc rV a1 k2
   go_wp2_with (at_builtin;refine dJ rfl (.tmp 38) (.tmp 40) _ rfl 3 i0 _ 1 8 Tryz.underlying23 Bu.out.1 Bu.out.2.1 Bu.out.2.2.1 Bu.out.2.2.2 rfl (by omega) w1 zkv.out (.slice A' i c') i (hZ (L.take i)) rfl HO.out _ 1 1 _ rfl HS.out dG.out (by unfold maxLen;omega) (by omega) ?_;intro A8 c8 w8 own8 E8 G8 L8;have rV:=E8.out.cell G1.out.1;have a1:=E8.out.cell G1.out.2.1;have k2:=E8.out.cell G1.out.2.2)
   go_roundw
   case rel=>exact ⟨i+1,A8,c8,by omega,rfl,rfl,by rw [Hid,zjN.out];exact own8.out,E8.out⟩
   case measure=>simp only [zcG];omega
  ·obtain rfl:i=L.length:=by omega
   rw [List.getElem?_eq_none (Nat.le_refl _),show oi none = -1 from rfl]
   rw [List.take_length] at hO
   have zbW:=aA (wA.out.chg.trans' (aF.of hX.out))
   have ziP:=aA (za4.out w1.heap.size wr wA.out.chg.size hX.out.size zbW.out)
   have zhF:=aA (show ∃ B',rU wr B' x cells lists cont∧∀ b,B' b→(B b∨w.heap.size≤b)∧b<w1.heap.size from ⟨B1,⟨⟨_,_,_,_,_,_,Zb.out.1.ext hX.out,wA.out.ok⟩,fun b hb=>Nat.lt_of_lt_of_le (Zb.out.2.2 b hb) hX.out.size,Ve,Ej⟩,fun b hb=>⟨Zb.out.2.1 b hb,Zb.out.2.2 b hb⟩⟩)
   have zfc:=aA (show Fq (fun g=>B g∨SY g) w.heap.size w wr from Fq.of_fr ⟨zbW.out.os,zbW.out.tape,zbW.out.output,zbW.out.size,fun k h1 h2=>zbW.out.block k h1 fun h3=>h2 (.inl h3)⟩)
   have iZ:=aA wA.out.chg.size
   go_wp2_with fail
   have ziD:=aA hO.out
   have xx:=aA hX.out.size
   clear hO hi bE hX
   go_loopw [9,44] (fun _ s44 w'=>∃ j:Nat,j≤L.length∧s44=.int .i64 j∧Hid (J w1.heap.size j w')∧Hid (w1.heap.size≤w'.heap.size)∧Hid (Fq (fun g=>B g∨SY g) w.heap.size w w')∧Hid (w'.ownsRow w1.heap.size 3 1 (.slice A' L.length c') L.length (hZ L))∧Hid (∃ B',rU w' B' x cells lists cont∧∀ b,B' b→(B b∨w.heap.size≤b)∧b<w1.heap.size)) (fun _ s44 _=>L.length - (intOf s44).toNat)
   case atStart=>exact ⟨0,by omega,rfl,ziP.out,xx.out,zfc.out,ziD.out,zhF.out⟩
   case round=>
    clear ziP zfc ziD zhF zbW xx
    obtain ⟨j,hj,rfl,hJ,hW,hF,hO,hC⟩:=hrel
    by_cases h:j<L.length
    ·obtain ⟨c,hc⟩ : ∃ c,L[j]?=some c:=⟨_,List.getElem?_eq_getElem h⟩
     obtain ⟨g9,rfl,-,-,cV,-⟩:=(show aJ wr (fun _=>True) 3 1 L.length (.slice A' L.length c') (hZ L) from ⟨dI hO.out (Nat.zero_le _),fun _ _=>trivial⟩).at_ (by omega)
     have d0:=cV j (.int .i64 (c:Int)) (by unfold hZ;rw [List.getElem?_map,hc];rfl)
     obtain ⟨fn,tmps,assign,body,hy,hR⟩:=HY.out w1.heap.size j c wr iZ.out hW.out hc hJ.out hF.out hC.out
     have HR:=aA hR
     clear hc cV hR
     go_upto_region 10 with fail
     refine (wpIn_wide (n:=1)).1 ?_
     gi_wp2_with fail
     refine HR.out.mono ?_
     rintro e w5 ⟨hFy,rfl,hJ5⟩
     have HFy:=aA hFy;have zg1:=aA hJ5
     clear hFy hJ5
     gi_wp2_with fail
     go_wp2_with fail
     go_roundw
     case rel=>
      refine ⟨j+1,by omega,by go_num,zg1.out,Nat.le_trans hW.out HFy.out.size,hF.out.trans (HFy.out.mono fun g hg=>.inr hg),Xw hO.out HFy.out (fun g hg hs=>?_) (by decide),?_⟩
      ·have h8:=(hO.out.lt g hg).1
       have h9:=(zem.out g hs).1
       have:=iZ.out
       omega
      ·obtain ⟨B',k1,k2⟩:=hC.out
       refine ⟨B',k1.fq HFy.out fun g hg hs=>?_,k2⟩
       rcases (k2 g hg).1 with h9 | h9
       ·exact (zem.out g hs).2 h9
       ·have:=(zem.out g hs).1
        omega
     case measure=>simp [intOf];omega
    ·obtain rfl:j=L.length:=by omega
     go_wp2_with fail
     go_end0
     exact ⟨_,rfl,iZ.out,hW.out,by rw [zht.out];exact hJ.out,hF.out,hC.out⟩
theorem vR {e:List L3} {n:Nat} {y:L3} (hy:e[n]?=some y) (p q:Option Nat) :
 (let e1:=dU e n (y.2.2 - 1)
  let e2:=if p=none then eN e1 n (oi q) else e1
  if q=none then jE e2 n (oi p) else e2)=Bm e n p q:=by
 apply List.ext_getElem?
 intro j
 unfold Bm dU
 rw [iX]
 by_cases hj:n=j
 ·subst hj
  rw [if_pos rfl,hy]
  rcases p with _ | p <;> rcases q with _ | q
  ·simp [eN,jE,hy]
  ·simp [eN,hy]
  ·simp [jE,hy]
  ·simp [hy]
 ·rw [if_neg hj]
  rcases p with _ | p <;> rcases q with _ | q
  ·simp [eN,jE,hj]
  ·simp [eN,hj]
  ·simp [jE,hj]
  ·simp [hj]
set_option maxRecDepth 100000 in
set_option maxHeartbeats 2000000 in
theorem Rx {w:World} {B:Nat→Prop} {x cells lists:Nat} {LA:Option Addr} {cA:Nat} {LE:Option Addr} {cE:Nat} {at_ en:List L3} (h:fE w B x cells lists LA cA LE cE at_ en) {n c:Nat} {p q:Option Nat} (hc:at_[c]?=some ((n:Int)+1,oi p,oi q)) {y:L3} (hy:en[n]?=some y) (hcc:c<cells) (pT:en.length≤1048577) (oZ:0≤y.2.2∧y.2.2≤1048576)
 (hp:∀ y,p=some y→y<at_.length∧y≠c) (hq:∀ y,q=some y→y<at_.length∧y≠c) :
 Calls Tryz.prog 142 #[.pointer (some ⟨x,0,none⟩),.int .i64 c] w fun e w'=>e=.returned (.int .i64 0)∧fE w' B x cells lists LA cA LE cE (Eh at_ c p q) (Bm en n p q)∧aF B w w':=by
 have HL:=aA (tL h hc (by simp only;omega) hcc)
 obtain ⟨g,rfl,hgB,rV,nD,k0,k1,k2,kf⟩:=h.lnk hc
 obtain ⟨g',rfl,hgB',hgx',hgl',e0,e1,e2,ef⟩:=h.end_ hy
 have qC:=(List.getElem?_eq_some_iff.1 hc).1
 have lP:=(List.getElem?_eq_some_iff.1 hy).1
 have ze9:=h.apart rfl rfl
 have a3:w.cell? ⟨x,3,none⟩=some (.slice (some ⟨g',0,none⟩) en.length cE):=h.blk.cell 3
 have n1:=Ne.symm rV;have n2:=Ne.symm hgx';have n3:=Ne.symm ze9
 have zam:IntKind.i64.wrap (n:Int)=(n:Int):=IntWalk.i64_in _ (by omega)
 have jQ:=aA (And.intro h.inB (And.intro hgB hgB'))
 have HC:=aA hc;have HY:=aA hy;have HP:=aA hp;have HQ:=aA hq;have H:=aA h
 dsimp only at k0 k1 k2
 clear h hc hy hp hq kf ef e0 e1
 go_enter Tryz.func142,Tryz.ntmps142
 go_upto_region 4 with ((with_reducible refine HL.out.mono ?_);rintro e w1 ⟨rfl,g0,kY,rfl⟩;obtain rfl:g=g0:=by injection kY with kY;injection kY)
 clear HL
 have k0:=aB k0
 have a3:=aB a3
 refine aC 11 (by kernel_rfl) (by kernel_rfl) (by kernel_rfl) ?_
 iterate 11
  refine aK (by kernel_rfl) (by kernel_rfl) ?_
  apply Exists.intro
  refine ⟨fun w1 aT=>?_,fun K hK=>?_⟩
  ·go_simp;first | done | rfl
  go_simp;refine hK _ _ ?_;clear hK K
 refine aH ⟨rfl,by kernel_rfl,fun wq hwq=>?_⟩
 simp only [bL]
 refine wpList_nil ?_
 clear k0 a3 zam k1 k2 e2
 have zeP:=aA hwq;have H0:=aA (H.out.ext hwq)
 clear hwq
 obtain ⟨g2,eg,-,-,-,-,-,e2,ef⟩:=H0.out.end_ HY.out
 obtain rfl:g'=g2:=by injection eg with eg;injection eg
 have f2:=ef (n*3+2)
 clear ef eg
 go_upto_region 6 with fail
 have H1:=aA (H0.out.putE (u:=.int .i64 (y.2.2 - 1)) (iP en n (y.2.2 - 1)) (by simp))
 have Ma:=aA (((aF.of zeP.out:aF B _ wq)).setCell (p:=⟨g',n*3+2,none⟩) (.inl jQ.out.2.2) (.int .i64 (y.2.2 - 1)))
 clear e2 f2
 generalize wq.setCell ⟨g',n*3+2,none⟩ (.int .i64 (y.2.2 - 1))=w1' at *
 have Og:(en.modify n fun x=>(x.1,x.2.1,y.2.2 - 1))=dU en n (y.2.2 - 1):=rfl
 rw [Og] at H1
 clear Og
 rcases p with _ | p <;> rcases q with _ | q
 ·-- none none
  obtain ⟨g3,eg,-,-,-,k0,k1,k2,kf⟩:=H1.out.lnk HC.out
  obtain rfl:g=g3:=by injection eg with eg;injection eg
  replace k1:w1'.cell? ⟨g,c*3+1,none⟩=some (.int .i64 (-1:Int)):=k1
  replace k2:w1'.cell? ⟨g,c*3+2,none⟩=some (.int .i64 (-1:Int)):=k2
  clear eg k0
  have zaW:n<(dU en n (y.2.2 - 1)).length:=by simp [dU];exact lP
  obtain ⟨g4,eg,-,-,-,e0,-,-,ef⟩:=H1.out.end_ (List.getElem?_eq_getElem zaW)
  obtain rfl:g'=g4:=by injection eg with eg;injection eg
  have f0:=ef (n*3)
  clear ef eg kf
  go_upto_region 9 with fail
  have H2:=aA (H1.out.putE (u:=.int .i64 (-1:Int)) (kW _ n (-1:Int)) (by simp))
  have vd:=aA (Ma.out.setCell (p:=⟨g',n*3,none⟩) (.inl jQ.out.2.2) (.int .i64 (-1:Int)))
  clear e0 f0 k1 k2
  generalize w1'.setCell ⟨g',n*3,none⟩ (.int .i64 (-1:Int))=w2' at *
  have J7:((dU en n (y.2.2 - 1)).modify n fun x=>((-1:Int),x.2.1,x.2.2))=eN (dU en n (y.2.2 - 1)) n (oi none):=rfl
  rw [J7] at H2
  clear J7
  have mG:=HC.out
  obtain ⟨g5,eg,-,-,-,-,k1,k2,kf⟩:=H2.out.lnk mG
  obtain rfl:g=g5:=by injection eg with eg;injection eg
  replace k1:w2'.cell? ⟨g,c*3+1,none⟩=some (.int .i64 (-1:Int)):=k1
  replace k2:w2'.cell? ⟨g,c*3+2,none⟩=some (.int .i64 (-1:Int)):=k2
  clear eg
  have zax:n<(eN (dU en n (y.2.2 - 1)) n (oi none)).length:=by simp [dU,eN];exact lP
  obtain ⟨g6,eg,-,-,-,-,e1,-,ef⟩:=H2.out.end_ (List.getElem?_eq_getElem zax)
  obtain rfl:g'=g6:=by injection eg with eg;injection eg
  have f1:=ef (n*3+1)
  clear ef eg kf
  go_upto_region 12 with fail
  have H3:=aA (H2.out.putE (u:=.int .i64 (-1:Int)) (jN _ n (-1:Int)) (by simp))
  have zaE:=aA (vd.out.setCell (p:=⟨g',n*3+1,none⟩) (.inl jQ.out.2.2) (.int .i64 (-1:Int)))
  clear e1 f1 k1 k2
  generalize w2'.setCell ⟨g',n*3+1,none⟩ (.int .i64 (-1:Int))=w3' at *
  have Ol:((eN (dU en n (y.2.2 - 1)) n (oi none)).modify n fun x=>(x.1,(-1:Int),x.2.2))=jE (eN (dU en n (y.2.2 - 1)) n (oi none)) n (oi none):=rfl
  rw [Ol] at H3
  clear Ol
  have Cq:=mG
  obtain ⟨g7,eg,-,-,-,k0,k1,k2,kf⟩:=H3.out.lnk Cq
  obtain rfl:g=g7:=by injection eg with eg;injection eg
  have f0:=kf (c*3)
  have f1:=kf (c*3+1)
  have f2:=kf (c*3+2)
  clear kf eg
  go_wp2_with fail
  go_ret
  have h4:=H3.out.setA (i:=c) ((0:Int),(0:Int),(0:Int))
  have he:=vR HY.out none none
  simp only [if_true] at he
  rw [← he]
  exact ⟨rfl,h4,((zaE.out.setCell (p:=⟨g,c*3,none⟩) (.inl jQ.out.2.1) _).setCell (p:=⟨g,c*3+1,none⟩) (.inl jQ.out.2.1) _).setCell (p:=⟨g,c*3+2,none⟩) (.inl jQ.out.2.1) _⟩
 ·-- none some
  obtain ⟨hql,hqc⟩:=HQ.out q rfl
  have K_:¬ ((q:Int)<0):=by omega
  obtain ⟨g3,eg,-,-,-,k0,k1,k2,kf⟩:=H1.out.lnk HC.out
  obtain rfl:g=g3:=by injection eg with eg;injection eg
  replace k1:w1'.cell? ⟨g,c*3+1,none⟩=some (.int .i64 (-1:Int)):=k1
  replace k2:w1'.cell? ⟨g,c*3+2,none⟩=some (.int .i64 (q:Int)):=k2
  clear eg k0
  have zaW:n<(dU en n (y.2.2 - 1)).length:=by simp [dU];exact lP
  obtain ⟨g4,eg,-,-,-,e0,-,-,ef⟩:=H1.out.end_ (List.getElem?_eq_getElem zaW)
  obtain rfl:g'=g4:=by injection eg with eg;injection eg
  have f0:=ef (n*3)
  clear ef eg kf
  go_upto_region 9 with fail
  have H2:=aA (H1.out.putE (u:=.int .i64 (q:Int)) (kW _ n (q:Int)) (by simp))
  have vd:=aA (Ma.out.setCell (p:=⟨g',n*3,none⟩) (.inl jQ.out.2.2) (.int .i64 (q:Int)))
  clear e0 f0 k1 k2
  generalize w1'.setCell ⟨g',n*3,none⟩ (.int .i64 (q:Int))=w2' at *
  have J7:((dU en n (y.2.2 - 1)).modify n fun x=>((q:Int),x.2.1,x.2.2))=eN (dU en n (y.2.2 - 1)) n (oi (some q)):=rfl
  rw [J7] at H2
  clear J7
  have mG:=HC.out
  obtain ⟨g5,eg,-,-,-,-,k1,k2,kf⟩:=H2.out.lnk mG
  obtain rfl:g=g5:=by injection eg with eg;injection eg
  replace k1:w2'.cell? ⟨g,c*3+1,none⟩=some (.int .i64 (-1:Int)):=k1
  replace k2:w2'.cell? ⟨g,c*3+2,none⟩=some (.int .i64 (q:Int)):=k2
  clear eg
  have F9:at_.length=at_.length:=rfl
  have a1:w2'.cell? ⟨x,1,none⟩=some (.slice (some ⟨g,0,none⟩) at_.length cA):=H2.out.blk.cell 1
  rw [F9] at a1
  go_upto_region 11 with fail
  have k1:=aB k1
  have k2:=aB k2
  have a1:=aB a1
  refine aC 15 (by kernel_rfl) (by kernel_rfl) (by kernel_rfl) ?_
  iterate 15
   refine aK (by kernel_rfl) (by kernel_rfl) ?_
   apply Exists.intro
   refine ⟨fun w1 aT=>?_,fun K hK=>?_⟩
   ·go_simp;first | done | rfl
   go_simp;refine hK _ _ ?_;clear hK K
  refine aH ⟨rfl,by kernel_rfl,fun wr3 hwr3=>?_⟩
  simp only [bL,List.drop]
  have H2q:=aA (H2.out.ext hwr3)
  have HX2q:=aA (vd.out.trans' (aF.of hwr3))
  clear k1 k2 a1 hwr3 kf
  obtain ⟨g6,eg,-,-,-,-,q1,-,qf⟩:=H2q.out.lnk (List.getElem?_eq_getElem (show q<at_.length by rw [F9];exact hql))
  obtain rfl:g=g6:=by injection eg with eg;injection eg
  have f1:=qf (q*3+1)
  clear eg qf
  go_upto_region 12 with fail
  have H3:=aA (H2q.out.setPrev (p:=q) (v:=(-1:Int)))
  have zaE:=aA (HX2q.out.setCell (p:=⟨g,q*3+1,none⟩) (.inl jQ.out.2.1) (.int .i64 (-1:Int)))
  clear q1 f1 H2q HX2q
  generalize wr3.setCell ⟨g,q*3+1,none⟩ (.int .i64 (-1:Int))=w3' at *
  have Cq:=i2 at_ (some q) (-1:Int) c
  rw [if_neg (fun e=>hqc (by injection e)),mG] at Cq
  obtain ⟨g7,eg,-,-,-,k0,k1,k2,kf⟩:=H3.out.lnk Cq
  obtain rfl:g=g7:=by injection eg with eg;injection eg
  have f0:=kf (c*3)
  have f1:=kf (c*3+1)
  have f2:=kf (c*3+2)
  clear kf eg
  go_wp2_with fail
  go_ret
  have h4:=H3.out.setA (i:=c) ((0:Int),(0:Int),(0:Int))
  have he:=vR HY.out none (some q)
  simp only [if_true,reduceCtorEq,if_false] at he
  rw [← he]
  exact ⟨rfl,h4,((zaE.out.setCell (p:=⟨g,c*3,none⟩) (.inl jQ.out.2.1) _).setCell (p:=⟨g,c*3+1,none⟩) (.inl jQ.out.2.1) _).setCell (p:=⟨g,c*3+2,none⟩) (.inl jQ.out.2.1) _⟩
 ·-- some none
  obtain ⟨Dk,D_⟩:=HP.out p rfl
  have Yz:¬ ((p:Int)<0):=by omega
  obtain ⟨g3,eg,-,-,-,k0,k1,k2,kf⟩:=H1.out.lnk HC.out
  obtain rfl:g=g3:=by injection eg with eg;injection eg
  replace k1:w1'.cell? ⟨g,c*3+1,none⟩=some (.int .i64 (p:Int)):=k1
  replace k2:w1'.cell? ⟨g,c*3+2,none⟩=some (.int .i64 (-1:Int)):=k2
  clear eg k0
  have a1:w1'.cell? ⟨x,1,none⟩=some (.slice (some ⟨g,0,none⟩) at_.length cA):=H1.out.blk.cell 1
  have k1':=k1
  go_upto_region 8 with fail
  clear k1'
  have k1:=aB k1
  have k2:=aB k2
  have a1:=aB a1
  refine aC 15 (by kernel_rfl) (by kernel_rfl) (by kernel_rfl) ?_
  iterate 15
   refine aK (by kernel_rfl) (by kernel_rfl) ?_
   apply Exists.intro
   refine ⟨fun w1 aT=>?_,fun K hK=>?_⟩
   ·go_simp;first | done | rfl
   go_simp;refine hK _ _ ?_;clear hK K
  refine aH ⟨rfl,by kernel_rfl,fun wr2 hwr2=>?_⟩
  simp only [bL,List.drop]
  have H1q:=aA (H1.out.ext hwr2)
  have HX1q:=aA (Ma.out.trans' (aF.of hwr2))
  clear k1 k2 a1 hwr2 kf
  obtain ⟨g4,eg,-,-,-,-,-,p2,pf⟩:=H1q.out.lnk (List.getElem?_eq_getElem Dk)
  obtain rfl:g=g4:=by injection eg with eg;injection eg
  have f0:=pf (p*3+2)
  clear eg pf
  go_upto_region 9 with fail
  have H2:=aA (H1q.out.setNext (p:=p) (v:=(-1:Int)))
  have vd:=aA (HX1q.out.setCell (p:=⟨g,p*3+2,none⟩) (.inl jQ.out.2.1) (.int .i64 (-1:Int)))
  clear p2 f0 H1q HX1q
  generalize wr2.setCell ⟨g,p*3+2,none⟩ (.int .i64 (-1:Int))=w2' at *
  have mG:=jA at_ (some p) (-1:Int) c
  rw [if_neg (fun e=>D_ (by injection e)),HC.out] at mG
  obtain ⟨g5,eg,-,-,-,-,k1,k2,kf⟩:=H2.out.lnk mG
  obtain rfl:g=g5:=by injection eg with eg;injection eg
  replace k1:w2'.cell? ⟨g,c*3+1,none⟩=some (.int .i64 (p:Int)):=k1
  replace k2:w2'.cell? ⟨g,c*3+2,none⟩=some (.int .i64 (-1:Int)):=k2
  clear eg
  have zax:n<(dU en n (y.2.2 - 1)).length:=by simp [dU];exact lP
  obtain ⟨g6,eg,-,-,-,-,e1,-,ef⟩:=H2.out.end_ (List.getElem?_eq_getElem zax)
  obtain rfl:g'=g6:=by injection eg with eg;injection eg
  have f1:=ef (n*3+1)
  clear ef eg kf
  go_upto_region 12 with fail
  have H3:=aA (H2.out.putE (u:=.int .i64 (p:Int)) (jN _ n (p:Int)) (by simp))
  have zaE:=aA (vd.out.setCell (p:=⟨g',n*3+1,none⟩) (.inl jQ.out.2.2) (.int .i64 (p:Int)))
  clear e1 f1 k1 k2
  generalize w2'.setCell ⟨g',n*3+1,none⟩ (.int .i64 (p:Int))=w3' at *
  have Ol:((dU en n (y.2.2 - 1)).modify n fun x=>(x.1,(p:Int),x.2.2))=jE (dU en n (y.2.2 - 1)) n (oi (some p)):=rfl
  rw [Ol] at H3
  clear Ol
  have Cq:=mG
  obtain ⟨g7,eg,-,-,-,k0,k1,k2,kf⟩:=H3.out.lnk Cq
  obtain rfl:g=g7:=by injection eg with eg;injection eg
  have f0:=kf (c*3)
  have f1:=kf (c*3+1)
  have f2:=kf (c*3+2)
  clear kf eg
  go_wp2_with fail
  go_ret
  have h4:=H3.out.setA (i:=c) ((0:Int),(0:Int),(0:Int))
  have he:=vR HY.out (some p) none
  simp only [if_true,reduceCtorEq,if_false] at he
  rw [← he]
  exact ⟨rfl,h4,((zaE.out.setCell (p:=⟨g,c*3,none⟩) (.inl jQ.out.2.1) _).setCell (p:=⟨g,c*3+1,none⟩) (.inl jQ.out.2.1) _).setCell (p:=⟨g,c*3+2,none⟩) (.inl jQ.out.2.1) _⟩
 ·-- some some
  obtain ⟨Dk,D_⟩:=HP.out p rfl
  have Yz:¬ ((p:Int)<0):=by omega
  obtain ⟨hql,hqc⟩:=HQ.out q rfl
  have K_:¬ ((q:Int)<0):=by omega
  obtain ⟨g3,eg,-,-,-,k0,k1,k2,kf⟩:=H1.out.lnk HC.out
  obtain rfl:g=g3:=by injection eg with eg;injection eg
  replace k1:w1'.cell? ⟨g,c*3+1,none⟩=some (.int .i64 (p:Int)):=k1
  replace k2:w1'.cell? ⟨g,c*3+2,none⟩=some (.int .i64 (q:Int)):=k2
  clear eg k0
  have a1:w1'.cell? ⟨x,1,none⟩=some (.slice (some ⟨g,0,none⟩) at_.length cA):=H1.out.blk.cell 1
  have k1':=k1
  go_upto_region 8 with fail
  clear k1'
  have k1:=aB k1
  have k2:=aB k2
  have a1:=aB a1
  refine aC 15 (by kernel_rfl) (by kernel_rfl) (by kernel_rfl) ?_
  iterate 15
   refine aK (by kernel_rfl) (by kernel_rfl) ?_
   apply Exists.intro
   refine ⟨fun w1 aT=>?_,fun K hK=>?_⟩
   ·go_simp;first | done | rfl
   go_simp;refine hK _ _ ?_;clear hK K
  refine aH ⟨rfl,by kernel_rfl,fun wr2 hwr2=>?_⟩
  simp only [bL,List.drop]
  have H1q:=aA (H1.out.ext hwr2)
  have HX1q:=aA (Ma.out.trans' (aF.of hwr2))
  clear k1 k2 a1 hwr2 kf
  obtain ⟨g4,eg,-,-,-,-,-,p2,pf⟩:=H1q.out.lnk (List.getElem?_eq_getElem Dk)
  obtain rfl:g=g4:=by injection eg with eg;injection eg
  have f0:=pf (p*3+2)
  clear eg pf
  go_upto_region 9 with fail
  have H2:=aA (H1q.out.setNext (p:=p) (v:=(q:Int)))
  have vd:=aA (HX1q.out.setCell (p:=⟨g,p*3+2,none⟩) (.inl jQ.out.2.1) (.int .i64 (q:Int)))
  clear p2 f0 H1q HX1q
  generalize wr2.setCell ⟨g,p*3+2,none⟩ (.int .i64 (q:Int))=w2' at *
  have mG:=jA at_ (some p) (q:Int) c
  rw [if_neg (fun e=>D_ (by injection e)),HC.out] at mG
  obtain ⟨g5,eg,-,-,-,-,k1,k2,kf⟩:=H2.out.lnk mG
  obtain rfl:g=g5:=by injection eg with eg;injection eg
  replace k1:w2'.cell? ⟨g,c*3+1,none⟩=some (.int .i64 (p:Int)):=k1
  replace k2:w2'.cell? ⟨g,c*3+2,none⟩=some (.int .i64 (q:Int)):=k2
  clear eg
  have F9:(setNext at_ (some p) (q:Int)).length=at_.length:=nH _ _ _
  have a1:w2'.cell? ⟨x,1,none⟩=some (.slice (some ⟨g,0,none⟩) (setNext at_ (some p) (q:Int)).length cA):=H2.out.blk.cell 1
  rw [F9] at a1
  go_upto_region 11 with fail
  have k1:=aB k1
  have k2:=aB k2
  have a1:=aB a1
  refine aC 15 (by kernel_rfl) (by kernel_rfl) (by kernel_rfl) ?_
  iterate 15
   refine aK (by kernel_rfl) (by kernel_rfl) ?_
   apply Exists.intro
   refine ⟨fun w1 aT=>?_,fun K hK=>?_⟩
   ·go_simp;first | done | rfl
   go_simp;refine hK _ _ ?_;clear hK K
  refine aH ⟨rfl,by kernel_rfl,fun wr3 hwr3=>?_⟩
  simp only [bL,List.drop]
  have H2q:=aA (H2.out.ext hwr3)
  have HX2q:=aA (vd.out.trans' (aF.of hwr3))
  clear k1 k2 a1 hwr3 kf
  obtain ⟨g6,eg,-,-,-,-,q1,-,qf⟩:=H2q.out.lnk (List.getElem?_eq_getElem (show q<(setNext at_ (some p) (q:Int)).length by rw [F9];exact hql))
  obtain rfl:g=g6:=by injection eg with eg;injection eg
  have f1:=qf (q*3+1)
  clear eg qf
  go_upto_region 12 with fail
  have H3:=aA (H2q.out.setPrev (p:=q) (v:=(p:Int)))
  have zaE:=aA (HX2q.out.setCell (p:=⟨g,q*3+1,none⟩) (.inl jQ.out.2.1) (.int .i64 (p:Int)))
  clear q1 f1 H2q HX2q
  generalize wr3.setCell ⟨g,q*3+1,none⟩ (.int .i64 (p:Int))=w3' at *
  have Cq:=i2 (setNext at_ (some p) (q:Int)) (some q) (p:Int) c
  rw [if_neg (fun e=>hqc (by injection e)),mG] at Cq
  obtain ⟨g7,eg,-,-,-,k0,k1,k2,kf⟩:=H3.out.lnk Cq
  obtain rfl:g=g7:=by injection eg with eg;injection eg
  have f0:=kf (c*3)
  have f1:=kf (c*3+1)
  have f2:=kf (c*3+2)
  clear kf eg
  go_wp2_with fail
  go_ret
  have h4:=H3.out.setA (i:=c) ((0:Int),(0:Int),(0:Int))
  have he:=vR HY.out (some p) (some q)
  simp only [reduceCtorEq,if_false] at he
  rw [← he]
  exact ⟨rfl,h4,((zaE.out.setCell (p:=⟨g,c*3,none⟩) (.inl jQ.out.2.1) _).setCell (p:=⟨g,c*3+1,none⟩) (.inl jQ.out.2.1) _).setCell (p:=⟨g,c*3+2,none⟩) (.inl jQ.out.2.1) _⟩
theorem Oc {w:World} {B:Nat→Prop} {x cells lists:Nat} {cont:Nat→List Nat} (h:rU w B x cells lists cont) {n c:Nat} {A D:List Nat} (hAD:cont n=A ++ c :: D) :
 Calls Tryz.prog 142 #[.pointer (some ⟨x,0,none⟩),.int .i64 c] w fun e w'=>e=.returned (.int .i64 0)∧rU w' B x cells lists (jV cont n (A ++ D))∧aF B w w':=by
 obtain ⟨LA,cA,LE,cE,at_,en,h1,h2⟩:=h.mem
 have yq:c∈cont n:=by rw [hAD];simp
 have jP:(A ++ c :: D).Nodup:=by rw [← hAD];exact h2.nd n
 have hc:=h2.lnk n c yq
 rw [hAD,tB jP,tO jP] at hc
 have lP:=(h2.lt yq).2
 have hy:=List.getElem?_eq_getElem lP
 have zj6:=h2.ends n _ hy
 have qC:=h2.cl;have zco:=h2.el;have Ve:=h.cm;have Ej:=h.lm
 have Du:(cont n).length≤1048576:=by
  have hb:∀ y∈cont n,y<at_.length:=fun y hy=>(h2.lt hy).1
  have:=kP _ _ (h2.nd n) hb
  omega
 have zaC:c∉A∧c∉D:=by
  rw [List.nodup_append] at jP
  exact ⟨fun hc=>jP.2.2 c hc c (by simp) rfl,(List.nodup_cons.1 jP.2.1).1⟩
 refine (Rx h1 hc hy (Nat.lt_of_lt_of_le (h2.lt yq).1 qC) (by omega) (by rw [zj6];simp only;omega)
  (fun y hy=>⟨(h2.lt (show y∈cont n by rw [hAD];exact List.mem_append_left _ (List.mem_of_getLast? hy))).1,fun e=>zaC.1 (e ▸ List.mem_of_getLast? hy)⟩)
  (fun y hy=>⟨(h2.lt (show y∈cont n by rw [hAD];exact List.mem_append_right _ (List.mem_cons_of_mem _ (List.mem_of_mem_head? (by rw [hy];simp))))).1,fun e=>zaC.2 (e ▸ List.mem_of_mem_head? (by rw [hy];simp))⟩)).mono ?_
 rintro e w' ⟨rfl,h3,h4⟩
 exact ⟨rfl,⟨⟨LA,cA,LE,cE,_,_,h3,h2.rem hAD⟩,fun b hb=>Nat.lt_of_lt_of_le (h.lt b hb) h4.size,Ve,Ej⟩,h4⟩
end Go.Proofs.YtahdiiaadjdmcaaGreat
