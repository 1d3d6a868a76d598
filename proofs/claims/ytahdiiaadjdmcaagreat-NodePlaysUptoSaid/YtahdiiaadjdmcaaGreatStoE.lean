import Derived.Test.YtahdiiaadjdmcaaGreatGaK
import Derived.Deep.CutRange
namespace Go.Proofs.YtahdiiaadjdmcaaGreat
open Go.RowKit
def zcL (w:World) (lab:aP) (v:bI) (H:Option Addr) (m:Nat) (ah:List Int):Prop:=
 ∀ w' lab' v',cW w' lab' v'→v'.x=v.x→v'.un=v.un→v'.U=v.U→(∀ b,lab'.dom b→lab.dom b∨w.heap.size≤b)→aF lab.dom w w'→cB w' H m ah
theorem wC {w:World} {base:Nat} {e:TypeId} {s n c:Nat} {A:Option Addr} {xs:List Value} (h:w.ownsRow base e s (.slice A n c) n xs):∀ a,A=some a→base≤a.block:=fun a ha=>by
 rcases h.2 with ⟨h1,_⟩ | ⟨g,cap,cur,h1,h2,_⟩
 ·injection h1 with h1;rw [h1] at ha;cases ha
 ·injection h1 with h1
  rw [h1] at ha
  injection ha with ha
  subst ha
  exact h2
theorem Hq {w:World} {B:Nat→Prop} {x cells lists:Nat} {cont:Nat→List Nat} (h:rU w B x cells lists cont) {n c:Nat} (hc:c∈cont n):c<cells:=by
 obtain ⟨LA,cA,LE,cE,at_,en,h1,h2⟩:=h.mem
 exact Nat.lt_of_lt_of_le (h2.lt hc).1 h2.cl
theorem xG (s L l:Nat) (h:s*L+l≤4611686018427387904):∃ q cl:Nat,Hid (cl=s*L+l)∧IntKind.i64.wrap ((s:Int)*(L:Int))=(q:Int)∧IntKind.i64.wrap ((q:Int)+(l:Int))=(cl:Int):=
 ⟨s*L,s*L+l,rfl,by rw [Int.natCast_mul];exact IntWalk.i64_in _ (by rw [← Int.natCast_mul];omega),by rw [Int.natCast_add];exact IntWalk.i64_in _ (by omega)⟩
def zaP (w:World) (lab:aP) (v:bI) (P':List aS) (sl':List (fZ Value)) (fr':List Nat) (b0 s g N l:Nat) (w':World):Prop:=
 ∃ lab' v' D',cW w' lab' v'∧(∀ b,lab'.dom b→lab.dom b∨w.heap.size≤b)∧aF lab.dom w w'∧oQ v v'∧v'.P=P'∧v'.sl=sl'∧v'.fr=fr'∧dB v'∧eF v'.L v'.gs v'.G v'.cont v'.sL v'.lL v'.lrefs D' (Ql v.P P' l)∧gK v'.sl v'.sL N∧v'.K≤v.K+2+3*l∧aL w' b0 186 #[.int .i64 s,.int .i64 g]∧¬ lab'.dom b0
structure wU (v v':bI) (s:Nat) (P':List aS):Prop where
 kept:oQ v v'
 P:v'.P=P'
 fs:fJ v.most v.sl v.fr=s :: fJ v'.most v'.sl v'.fr
 K:v'.K≤v.K+20
set_option maxRecDepth 100000 in
set_option maxHeartbeats 2000000 in
theorem J1 {w:World} {lab:aP} {v:bI} {D:Nat→List (List V × Nat)} {N:Nat} (h:cW w lab v) (gI:oD v D N) (hN:N<1073741824) (hK:v.K≤4611686018427380000)
 {r:List V} {A:Option Addr} {n:Nat} (c:Nat) (dY:pW w (lab.own 8) A n r) (dW:aV v.width r=true) (Lm:dP r) (hwf:uH r) (lQ:r∉v.P.map (·.2)) (i4:v.P.length<v.most)
 {P1 P2:List aS} (hP:v.P=P1 ++ P2) {H:Option Addr} {m:Nat} (d:Nat) (hah:zcL w lab v H m (eC v.gs r P2)) :
 Calls Tryz.prog 139 #[.pointer (some ⟨v.x,0,none⟩),.slice A n c,.slice H m d] w fun e w'=>∃ (s:Nat) (v':bI) (D':Nat→List (List V × Nat)),e=.returned (.int .i64 s)∧wU v v' s (P1 ++ (s,r) :: P2)∧oV v'.sl s=some (.slice A n c)∧fK w lab w' v'∧oD v' D' N:=by
 obtain rfl:=dY.1.1
 have Js:=dW
 unfold aV at Js
 rw [Bool.and_eq_true,decide_eq_true_eq] at Js
 have q_:r.length≤30:=by rw [Js.1];exact gI.row.width
 have HT:=aA (h.take_row c dY (by rw [gI.row.lv];exact i4) (gI.gen.lt hN).1 (P':=fun s=>P1 ++ (s,r) :: P2) (fun s j q hj=>by
  rw [hP]
  simp only [List.mem_append,List.mem_cons,Prod.mk.injEq] at hj ⊢
  rcases hj with hj | ⟨rfl,rfl⟩ | hj
  ·exact .inl (.inl hj)
  ·exact .inr ⟨rfl,rfl⟩
  ·exact .inl (.inr hj)))
 have HH:=aA h;have Gr:=aA gI;have HR:=aA dY;have HS:=aA hah;have HP:=aA hP;have zdL:=aA lQ;have HF:=aA (And.intro dW (And.intro Lm hwf))
 have HV:=aA Js.2
 have a4:w.cell? ⟨v.x,4,none⟩=some (.pointer (some ⟨v.xs,0,none⟩)):=h.str.cell 4
 have zO:=gI.row.most
 have zad:=gI.row.gsl
 have zat:v.L≤5:=by unfold bI.L;omega
 clear h gI dY hah hP lQ dW Js Lm hwf
 go_enter Tryz.func139,Tryz.ntmps139
 go_upto_region 2 with ((with_reducible refine HT.out.mono ?_);rintro e w2 ⟨s,sl',fr',h1,rfl,lab2,s2,d2,c2⟩;have T2:=aA h1;have S2:=aA s2;have D2:=aA d2;have C2:=aA c2;clear h1 s2 d2 c2)
 clear HT a4
 have vO:oV v.sl s=none:=by
  have h6:=(HH.out.part 2).ok
  have h7:s∈fJ v.most v.sl v.fr:=by rw [T2.out.fs];simp
  exact (h6.fs_dead (h6.fs_lt s h7)).1 h7
 have Lm:s<v.most:=by
  have h6:=(HH.out.part 2).ok
  exact h6.fs_lt s (by rw [T2.out.fs];simp)
 have HB:=aA (aL.new w2 186 #[.int .i64 s,.int .i64 ((aX v.sl s:Int)+1)])
 have HE:=aA (aD.alloc w2 (.cells #[.int .i64 s,.int .i64 ((aX v.sl s:Int)+1)] 186))
 have S3:=aA (S2.out.ext HE.out)
 have F_:=aA (show ¬ lab2.dom w2.heap.size from fun ⟨j,hj⟩=>by have:=S2.out.lt _ _ hj;omega)
 generalize w2.alloc (.cells #[.int .i64 s,.int .i64 ((aX v.sl s:Int)+1)] 186)=w3 at *
 obtain ⟨b0,hb0⟩ : ∃ b0,w2.heap.size=b0:=⟨_,rfl⟩
 have zi6:=aA (Nat.le_of_eq hb0)
 rw [hb0] at HB F_ ⊢
 have a5:w3.cell? ⟨v.x,5,none⟩=some (.map (some v.rm)):=S3.out.str.cell 5
 have r0:w3.cell? ⟨b0,0,none⟩=some (.int .i64 s):=HB.out.cell 0
 have r1:w3.cell? ⟨b0,1,none⟩=some (.int .i64 ((aX v.sl s:Int)+1)):=HB.out.cell 1
 have a5:=aB a5;have r0:=aB r0;have r1:=aB r1
 clear hb0
 refine aC 7 (by kernel_rfl) (by kernel_rfl) (by kernel_rfl) ?_
 iterate 7
  refine aK (by kernel_rfl) (by kernel_rfl) ?_
  apply Exists.intro
  refine ⟨fun w1 aT=>?_,fun K hK=>?_⟩
  ·go_simp;first | done | rfl
  go_simp;refine hK _ _ ?_;clear hK K
 refine aH ⟨rfl,by kernel_rfl,fun w4 hw4=>?_⟩
 simp only [bL,List.drop]
 clear a5 r0 r1
 have S4:=aA (S3.out.ext hw4)
 have B4:=aA (HB.out.ext hw4)
 have E4:=aA (HE.out.trans hw4)
 obtain ⟨-,nn,m7,hmap⟩:=S4.out.part 3
 refine pS rfl (.tmp 24) (.tmp 26) (.tmp 27) 124 186 rfl Tryz.underlying124 v.rm nn v.refs rfl hmap (by have h9:nn≤v.K:=m7;unfold maxLen;omega) s (.agg #[.int .i64 s,.int .i64 ((aX v.sl s:Int)+1)]) rfl rfl (by omega) ?_
 intro w5 M5 T5
 have SR:=S4.out.put_ref (n:=nn+1) (by have h9:nn≤v.K:=m7;show nn+1≤v.K+1;omega) M5.out T5.out
 obtain ⟨lab3,s5,d5,c5⟩:=SR
 have S5:=aA s5;have D5:=aA d5;have C5:=aA c5
 have B5:=aA (C5.out.blk B4.out F_.out)
 have Wz:=aA (show ¬ lab3.dom b0 from fun hd=>by
  rcases D5.out _ hd with h9 | h9
  ·exact F_.out h9
  ·have:=B4.out.lt;omega)
 clear s5 d5 c5 hmap hw4 M5 T5 m7 S3
 have vq:=C2.out.trans' (aF.of E4.out)
 have Tn:=aA (vq.trans C5.out fun g hg hl=>(D2.out g hg).resolve_right (by omega))
 have zgo:=aA (show ∀ b,lab3.dom b→lab.dom b∨w.heap.size≤b from fun b hb=>by
  rcases D5.out b hb with h9 | h9
  ·exact D2.out b h9
  ·exact .inr (Nat.le_trans vq.size h9))
 clear vq
 have zer:oV sl' s=some (.slice A r.length c):=by rw [T2.out.th,if_pos rfl]
 have vU:=aA (fun (wx:World) (labx:aP) (vx:bI) (hx:cW wx labx vx) (h1:vx.sl=sl') (h2:(s,r)∈vx.P)=>show bD wx A r.length r from by
  obtain ⟨A',n',c',e1,e2⟩:=(hx.part 8).1 s r h2
  rw [h1,zer] at e1
  obtain ⟨rfl,rfl,rfl⟩ : A=A'∧r.length=n'∧c=c':=by injection e1 with e1;injection e1 with e1 e3 e4;exact ⟨e1,e3,e4⟩
  exact ⟨e2.1,by omega,HF.out.2.1,HF.out.2.2⟩)
 have jm:=aA (vU.out w5 lab3 _ S5.out rfl (by simp))
 have HPk:=aA (fun w6 (h2:aD w5 w6)=>oX c (jm.out.ext h2))
 go_upto_region 3 with fail
 have a6:w5.cell? ⟨v.x,6,none⟩=some (.pointer (some ⟨v.xw,0,none⟩)):=S5.out.str.cell 6
 have r0:w5.cell? ⟨b0,0,none⟩=some (.int .i64 s):=B5.out.cell 0
 have a6:=aB a6
 have r0:=aB r0
 clear S4 S2 B4
 refine aC 8 (by kernel_rfl) (by kernel_rfl) (by kernel_rfl) ?_
 iterate 5
  refine aK (by kernel_rfl) (by kernel_rfl) ?_
  apply Exists.intro
  refine ⟨fun w1 aT=>?_,fun K hK=>?_⟩
  ·go_simp;first | done | rfl
  go_simp;refine hK _ _ ?_;clear hK K
 refine cU [] (fun u w2=>bF w2 (fun b=>w5.heap.size≤b) u (pk r)) (fun u w2 w3 _ h2 h3=>h3.ext h2) rfl (by kernel_rfl) (fun w9 hw9=>?_) ?_
 ·clear a6 r0
  simp only [cN]
  go_simp
  refine ⟨aD.refl _,(HPk.out w9 hw9).mono fun e w' h=>?_⟩
  obtain ⟨K,rfl,h2,h3⟩:=h
  exact ⟨K,rfl,h3,h2.mono fun b hb=>Nat.le_trans hw9.size hb⟩
 iterate 2
  refine aK (by kernel_rfl) (by kernel_rfl) ?_
  apply Exists.intro
  refine ⟨fun w1 aT=>?_,fun K hK=>?_⟩
  ·go_simp;first | done | rfl
  go_simp;refine hK _ _ ?_;clear hK K
 refine aH ⟨rfl,by kernel_rfl,fun w6 hw6=>?_⟩
 simp only [bL]
 intro K pI
 obtain ⟨A1,n1,c1,rfl,oI,jT⟩:=pI.at_
 simp only [List.drop]
 have S6:=aA (S5.out.ext hw6)
 have B6:=aA (B5.out.ext hw6)
 obtain rfl:=oI.len
 have HPut:=aA (show Calls Tryz.prog 148 #[.pointer (some ⟨v.xw,0,none⟩),.slice A1 (pk r).length c1,.int .i64 (s:Int)] w6 (fun e w'=>e=.returned (.tuple #[.int .i64 0,.bool false,.int .i64 0])∧fK w6 lab3 w' {v with sl:=sl',fr:=fr',lv:=v.lv+1,P:=P1 ++ (s,r) :: P2,refs:=v.refs.put s (.agg #[.int .i64 s,.int .i64 ((aX v.sl s:Int)+1)]),E:=(pk r,(s:Int)) :: v.E,K:=v.K+2}) from S6.out.put_where (by show v.K+1≤_;omega) c1 (s:Int) oI (S5.out.aside (Nat.le_refl _) jT) (vD r) (Gr.out.row.noEnt HV.out HF.out.2.2 zdL.out) (by show v.E.length<v.most;rw [Gr.out.row.ents.length_eq,List.length_map];exact i4))
 have E6:=aA hw6
 clear pI oI jT a6 r0 hw6 HPk
 go_upto_region 4 with ((with_reducible refine HPut.out.mono ?_);rintro e w7 ⟨rfl,lab4,s7,d7,c7⟩;have S7:=aA s7;have D7:=aA d7;have C7:=aA c7;clear s7 d7 c7)
 clear HPut
 have Fc:=Tn.out.trans' (aF.of E6.out)
 have zba:=aA (show zaP w lab v (P1 ++ (s,r) :: P2) sl' fr' b0 s (aX v.sl s+1) N 0 w7 from by
  refine ⟨lab4,_,D,S7.out,fun b hb=>?_,Fc.trans C7.out fun g hg hl=>(zgo.out g hg).resolve_right (by omega),⟨rfl,rfl,rfl,rfl,rfl,rfl,rfl,rfl,rfl⟩,rfl,rfl,rfl,Gr.out.row.link HP.out T2.out vO HF.out.1 HF.out.2.1 HF.out.2.2 zdL.out _,?_,Gr.out.gen.tookR T2.out vO,by show v.K+2≤_;omega,C7.out.blk B6.out Wz.out,fun hd=>?_⟩
  ·rcases D7.out b hb with h9 | h9
   ·exact zgo.out b h9
   ·exact .inr (Nat.le_trans Fc.size h9)
  ·rw [Ro];exact Gr.out.lan
  ·rcases D7.out _ hd with h9 | h9
   ·exact Wz.out h9
   ·have:=B6.out.lt;omega)
 have zjr:=aA T2.out.fs
 have a2:w7.cell? ⟨v.x,2,none⟩=some (.int .i64 (v.L:Int)):=S7.out.str.cell 2
 clear Fc Tn zgo S7 D7 C7 S6 S5 D5 C5 D2 C2 jm HB HE B5 B6 F_ Wz E4 E6 T2
 have zcn:(0:Int)≤(v.L:Int):=by omega
 go_wp2_with fail
 go_loopw [9,10,11,41] (fun _ _ _ s41 w'=>∃ l:Nat,l≤v.L∧s41=.int .i64 l∧Hid (zaP w lab v (P1 ++ (s,r) :: P2) sl' fr' b0 s (aX v.sl s+1) N l w')) (fun _ _ _ s41 _=>v.L - (intOf s41).toNat)
 case atStart=>exact ⟨0,by omega,rfl,zba⟩
 case round=>
  obtain ⟨l,Ej,rfl,hI⟩:=hrel
  obtain ⟨lab1,v1,Dl,s1,d1,c1,k1,eP,esl,efr,R1,L1,G1,pI,B1,hnb1⟩:=hI.out
  have a2:wr.cell? ⟨v.x,2,none⟩=some (.int .i64 (v.L:Int)):=by rw [← k1.x,← k1.L];exact s1.str.cell 2
  have r0:wr.cell? ⟨b0,0,none⟩=some (.int .i64 s):=B1.cell 0
  have S1:=aA s1;have D1:=aA d1;have C1:=aA c1;have K1:=aA k1;have EP:=aA eP;have ES:=aA esl;have EF:=aA efr;have Qp:=aA R1;have zc:=aA L1;have kk:=aA G1;have Y7:=aA pI;have xz:=aA B1;have qp:=aA hnb1
  clear s1 d1 c1 k1 eP esl efr R1 L1 G1 pI B1 hnb1 hI
  by_cases vg:l<v.L
  ·have zdD:∀ p∈P1 ++ P2,p.1≠s:=fun p hp e=>by
    have h1:s∈v.P.map (·.1):=List.mem_map.2 ⟨p,by rw [HP.out];exact hp,e⟩
    have h2:=(Gr.out.row.alive s).2 h1
    rw [vO] at h2;cases h2
   have HsP:=aA zdD
   obtain ⟨o,ho1,ho2,ho3⟩:=Et v.gs r P2 v.L l (by unfold bI.L at vg;omega)
   have HO:=aA ho1;have zj1:=aA ho2;have zfz:=aA ho3
   clear zdD ho1 ho2 ho3
   go_upto_if 45 with fail
   go_cut [10] from 42 to 98 (fun s10 wx=>∃ (nL:Nat) (lab2:aP) (v2:bI) (E1 E2:List Nat),s10=.int .i64 nL∧Hid (cW wx lab2 v2)∧Hid (∀ b,lab2.dom b→lab.dom b∨w.heap.size≤b)∧Hid (aF lab.dom w wx)∧Hid (aL wx b0 186 #[.int .i64 s,.int .i64 ((aX v.sl s+1:Nat):Int)])∧Hid (¬ lab2.dom b0)∧Hid (Pp v1 v2 (Ql v.P (P1 ++ (s,r) :: P2) (l+1)) nL E1 E2 (s*v.L+l) N)∧Hid (E2.head?=o.map fun s=>s*v.L+l))
   case first=>
    rcases Nat.eq_zero_or_pos l with rfl | hl0
    ·go_wp2_with fail
     go_meet
     refine ⟨0,lab1,v1,P1.map fun p:aS=>p.1*v.L,P2.map fun p:aS=>p.1*v.L,rfl,S1,D1,C1,xz,qp,?_,aA (zj1.out (by first | trivial | rfl))⟩
     have h1:=km Qp.out zc.out kk.out r (by rw [Jw,HP.out]) HsP.out
     rw [K1.out.L,F3] at h1
     exact h1
    ·obtain ⟨k,rfl⟩ : ∃ k,l=k+1:=⟨l - 1,by omega⟩
     have Ix:k<v.gs.length:=by unfold bI.L at vg;omega
     have Ni:v1.gs[k]?=some v.gs[k]:=by rw [K1.out.gs];exact List.getElem?_eq_getElem Ix
     have nD:=(Qp.out.gs _ (List.mem_of_getElem? Ni)).1
     have Mt:=vU.out wr lab1 v1 S1.out ES.out (by rw [EP.out];simp)
     have HKey:=aA (Qz S1.out Ni (by omega) (by have:=Qp.out.gsl;omega) c Mt)
     have j2:=uO Qp.out Ni (r:=r) (by rw [K1.out.width];exact HF.out.1) HF.out.2.1 HF.out.2.2
     have Qr:v1.most=v.most:=K1.out.most
     have HOpen:=aA (fun (A':Option Addr) (c':Nat) (w1:World) (hx:aD wr w1) (ho:w1.ownsRow wr.heap.size 85 3 (.slice A' (aE v.gs[k] r).length c') (aE v.gs[k] r).length (aO (aE v.gs[k] r)))=>
      Ta (S1.out.ext hx) Qp.out zc.out kk.out hN (by have:=Y7.out;omega) Ni (P1:=P1) (P2:=P2) (s:=s) (r:=r) (by rw [Jw,HP.out])
       (fun l=>by
        unfold Ql
        split
        ·rw [Qr];have h1:=i4;rw [HP.out] at h1;simp only [List.length_append,List.length_cons] at h1 ⊢;omega
        ·rw [Qr];omega)
       (by rw [Qr,← HP.out];exact i4) (fun p hp=>by rw [K1.out.width];rw [← HP.out] at hp;exact Gr.out.row.rows p hp) (by rw [K1.out.width];exact HF.out.1) HF.out.2.1 HF.out.2.2 HsP.out c'
       ⟨aW.own ho,by rw [j2.len];omega,j2.small,j2.wf⟩ (fun a ha ⟨j,hj⟩=>by have h1:=wC ho a ha;have h2:=S1.out.lt _ _ hj;omega))
     rw [K1.out.x] at HKey HOpen
     rw [K1.out.L] at HOpen
     have oI:(((k+1:Nat):Int) - 1)=(k:Int):=by omega
     clear Ni Mt j2 Qr nD
     go_wp2_with (first
      | ((with_reducible refine HKey.out.mono ?_);rintro e w4 ⟨A4,c4,rfl,h4,x4⟩;have O4:=aA h4;have X4:=aA x4;clear h4 x4)
      | ((with_reducible refine (HOpen.out A4 c4 w4 X4.out O4.out).mono ?_);rintro e w5 ⟨nL,v2,rfl,⟨lab2,s5,d5,c5⟩,br⟩;have S5:=aA s5;have D5:=aA d5;have C5:=aA c5;have BR:=aA br;clear s5 d5 c5 br))
     go_meet
     have ww:=xz.out.ext X4.out
     refine ⟨nL,lab2,v2,_,_,rfl,S5,fun b hb=>?_,(C1.out.trans' (aF.of X4.out)).trans C5.out fun g hg hl=>(D1.out g hg).resolve_right (by omega),C5.out.blk ww qp.out,fun hd=>?_,(by rw [← F3];exact BR.out),zfz.out k _ rfl (List.getElem?_eq_getElem Ix)⟩
     ·rcases D5.out b hb with h9 | h9
      ·exact D1.out b h9
      ·exact .inr (Nat.le_trans C1.out.size (Nat.le_trans X4.out.size h9))
     ·rcases D5.out _ hd with h9 | h9
      ·exact qp.out h9
      ·have:=ww.lt;omega
   case rest=>
    obtain ⟨nL,lab2,v2,E1,E2,rfl,S2,D2,C2,B2,zig,BR,zde⟩:=hcut
    have K2:=aA (K1.out.trans BR.out.kept)
    have HNum:=HS.out wc lab2 v2 S2.out K2.out.x K2.out.un K2.out.U D2.out C2.out
    have zgC:m=v.L:=by rw [HNum.len];simp [eC,bI.L]
    obtain ⟨hb,hoff,ax,rfl,hx,-,cV⟩:=HNum.get (i:=l) (by omega)
    obtain rfl:oi o=ax:=Option.some.inj (HO.out.symm.trans hx)
    have zjh:(l:Int)<(m:Int):=by omega
    have a10:wc.cell? ⟨v.x,10,none⟩=some (.pointer (some ⟨v2.xo,0,none⟩)):=by rw [← K2.out.x];exact S2.out.str.cell 10
    have a2:wc.cell? ⟨v.x,2,none⟩=some (.int .i64 (v.L:Int)):=by rw [← K2.out.x,← K2.out.L];exact S2.out.str.cell 2
    have r0:wc.cell? ⟨b0,0,none⟩=some (.int .i64 s):=B2.out.cell 0
    have zfl:s*v.L+l<v.most*v.L:=by
     have h1:s*v.L+v.L≤v.most*v.L:=by rw [← Nat.succ_mul];exact Nat.mul_le_mul_right _ Lm
     omega
    have zdQ:v.most*v.L≤327680:=Nat.le_trans (Nat.mul_le_mul zO.2 zat) (by omega)
    obtain ⟨q1,cl,oR,hwl1,hwl2⟩:=xG s v.L l (by omega)
    have ω:=aA (fun (w8 w9:World) (lab9:aP) (hx:aD wc w8) (s9:cW w9 lab9 {v2 with cont:=jV v2.cont nL (E1 ++ (s*v.L+l) :: E2)}) (d9:∀ b,lab9.dom b→lab2.dom b∨w8.heap.size≤b) (c9:aF lab2.dom w8 w9)=>show zaP w lab v (P1 ++ (s,r) :: P2) sl' fr' b0 s (aX v.sl s+1) N (l+1) w9 from by
     obtain ⟨D',hD'⟩:=BR.out.fin
     have hR:=BR.out.row
     have Φ:=BR.out.K
     have zk1:=Y7.out
     refine ⟨lab9,_,D',s9,fun b hb=>?_,(C2.out.trans' (aF.of hx)).trans c9 fun g hg hl=>(D2.out g hg).resolve_right (by omega),⟨K2.out.x,K2.out.width,K2.out.most,K2.out.gs,K2.out.marked,K2.out.uA,K2.out.uC,K2.out.un,K2.out.U⟩,BR.out.P.trans EP.out,BR.out.sl.trans ES.out,BR.out.fr.trans EF.out,⟨hR.width,hR.most,hR.gsl,hR.gs,hR.rows,hR.slots,hR.vals,hR.alive,hR.lv,hR.refs,hR.ents,hR.gx⟩,hD',BR.out.gen,by show v2.K≤v.K+2+3*(l+1);omega,c9.blk (B2.out.ext hx) zig.out,fun hd=>?_⟩
     ·rcases d9 b hb with h9 | h9
      ·exact D2.out b h9
      ·exact .inr (Nat.le_trans C2.out.size (Nat.le_trans hx.size h9))
     ·rcases d9 _ hd with h9 | h9
      ·exact zig.out h9
      ·have:=(B2.out.ext hx).lt;omega)
    have zd9:nL<v2.most*v2.L+1:=by rw [BR.out.kept.most,BR.out.kept.L];exact BR.out.nb
    have mG:s*v.L+l<v2.most*v2.L:=by rw [K2.out.most,K2.out.L];exact zfl
    have zjz:=aA zd9;have HC:=aA mG
    clear hx HNum zd9 mG zfl zgC
    cases o with
    |none=>
     obtain rfl:E2=[]:=by have h1:=zde.out;cases E2 with
      | nil=>rfl
      | cons a b=>cases h1
     simp only [oi] at cV
     go_upto_region 13 with fail
     have a10:=aB a10;have a2:=aB a2;have r0:=aB r0
     clear cV
     refine aC 14 (by kernel_rfl) (by kernel_rfl) (by kernel_rfl) ?_
     iterate 14
      refine aK (by kernel_rfl) (by kernel_rfl) ?_
      apply Exists.intro
      refine ⟨fun w1 aT=>?_,fun K hK=>?_⟩
      ·go_simp;first | done | rfl
      go_simp;refine hK _ _ ?_;clear hK K
     refine aH ⟨rfl,by kernel_rfl,fun w8 hw8=>?_⟩
     simp only [bL,List.drop]
     clear a10 a2 r0
     have HApp:=aA ((S2.out.ext hw8).append zjz.out HC.out BR.out.fresh)
     rw [BR.out.cont,List.append_nil,← oR.out] at HApp
     go_wp2_with ((with_reducible refine HApp.out.mono ?_);rintro e w9 ⟨rfl,lab9,s9,d9,c9⟩;have HL:=aA (ω.out w8 w9 lab9 hw8 (by rw [← oR.out];exact s9) d9 c9);clear s9 d9 c9)
     go_roundw
     case rel=>exact ⟨l+1,by omega,by go_num,HL⟩
     case measure=>simp [intOf];omega
    |some a=>
     obtain ⟨E3,rfl⟩ : ∃ E3,E2=(a*v.L+l) :: E3:=by
      have h1:=zde.out
      cases E2 with
      | nil=>cases h1
      |cons x y=>
       simp only [List.head?_cons,Option.map_some,Option.some.injEq] at h1
       exact ⟨y,by rw [h1]⟩
     have zk3:(0:Int)≤(a:Int):=by omega
     simp only [oi] at cV
     have zjo:a*v.L+l<v.most*v.L:=by
      have h1:(a*v.L+l)∈v2.cont nL:=by rw [BR.out.cont];simp
      have h2:=Hq (S2.out.part 7) h1
      rw [K2.out.most,K2.out.L] at h2
      exact h2
     obtain ⟨q2,ca,Vt,hwa1,hwa2⟩:=xG a v.L l (by omega)
     clear zjo
     go_upto_region 12 with fail
     have a10:=aB a10;have a2:=aB a2;have r0:=aB r0
     clear cV
     refine aC 21 (by kernel_rfl) (by kernel_rfl) (by kernel_rfl) ?_
     iterate 21
      refine aK (by kernel_rfl) (by kernel_rfl) ?_
      apply Exists.intro
      refine ⟨fun w1 aT=>?_,fun K hK=>?_⟩
      ·go_simp;first | done | rfl
      go_simp;refine hK _ _ ?_;clear hK K
     refine aH ⟨rfl,by kernel_rfl,fun w8 hw8=>?_⟩
     simp only [bL,List.drop]
     clear a10 a2 r0
     have HBef:=aA ((S2.out.ext hw8).before BR.out.cont HC.out BR.out.fresh)
     rw [← oR.out,← Vt.out] at HBef
     go_wp2_with ((with_reducible refine HBef.out.mono ?_);rintro e w9 ⟨rfl,lab9,s9,d9,c9⟩;have HL:=aA (ω.out w8 w9 lab9 hw8 (by rw [← oR.out,← Vt.out];exact s9) d9 c9);clear s9 d9 c9)
     go_roundw
     case rel=>exact ⟨l+1,by omega,by go_num,HL⟩
     case measure=>simp [intOf];omega
  ·obtain rfl:l=v.L:=by omega
   go_wp2_with fail
   go_ret
   refine ⟨s,v1,Dl,rfl,⟨K1.out,EP.out,?_,?_⟩,by rw [ES.out];exact zer,⟨lab1,S1.out,D1.out,C1.out⟩,Qp.out,?_,kk.out⟩
   ·rw [K1.out.most,ES.out,EF.out];exact zjr.out
   ·have:=Y7.out;omega
   ·refine zc.out.congrQ fun j hj=>?_
    rw [EP.out]
    exact if_pos (by rw [← K1.out.L];unfold bI.L;omega)
end Go.Proofs.YtahdiiaadjdmcaaGreat
