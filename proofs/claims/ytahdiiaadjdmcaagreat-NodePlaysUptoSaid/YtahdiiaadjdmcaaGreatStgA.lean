import Derived.Test.YtahdiiaadjdmcaaGreatGbN
namespace Go.Proofs.YtahdiiaadjdmcaaGreat
open Go.RowKit
theorem fK.refl' {w:World} {lab:aP} {v:bI} (h:cW w lab v):fK w lab w v:=⟨lab,h,fun _ hb=>.inl hb,aF.refl _ _⟩
def uL (w:World) (B:Nat→Prop) (x:Nat) (S:aY) (N:Nat) (o:Option (List V)) (e:Ending) (w':World):Prop:=match o with
 | none=>e=.returned (.tuple #[.slice none 0 0,.bool false,.int .i64 0])∧pA w B x S N w'
 | some r=>∃ A c M,e=.returned (.tuple #[.slice A r.length c,.bool true,.int .i64 0])∧w'.ownsRow M 85 3 (.slice A r.length c) r.length (aO r)∧Db w B x S N w' M
theorem pA.ext' {w w' w2:World} {B:Nat→Prop} {x:Nat} {S:aY} {N:Nat} (h:pA w B x S N w') (hx:aD w' w2):Db w B x S N w2 w'.heap.size:=by
 obtain ⟨B',h1,h2,h3,h4⟩:=h
 exact ⟨B',h1.ext hx,h2,h3,h4.trans' (aF.of hx),h4.size,hx.size⟩
set_option maxRecDepth 100000 in
theorem Zv {w:World} {B:Nat→Prop} {x:Nat} {S:aY} {N:Nat} (h:kK w B x S N) (hN:N≤8796093022208) {k:Nat} (hk:k<S.gs.length) {r:List V} {A:Option Addr} {n:Nat} (c:Nat) (ha:bD w A n r) :
 Calls Tryz.prog 87 #[.pointer (some ⟨x,0,none⟩),.int .i64 k,.slice A n c] w (uL w B x S (N+1) (gY S k r).head?):=by
 obtain ⟨lab,v,D,P0,F0,h1,h2,h3,h4⟩:=h
 have hk':k<v.gs.length:=by rw [← h3.gs];exact hk
 obtain ⟨g,hg⟩ : ∃ g,v.gs[k]?=some g:=⟨_,List.getElem?_eq_getElem hk'⟩
 have HN:=aA (qX h1 hk')
 have HL:=aA (Rq h1 h4 hN hg c ha)
 have sR:=Ge h3 hg r
 have wT:=fun h=>Rj (key:=r) h4 hg h
 have a_:qN v D k r none→gY S k r=[]:=fun hd=>by rw [sR,wT hd];rfl
 have Lx:∀ q,qN v D k r (some q)→∃ s r1 R,gY S k r=r1 :: R∧(s,r1)∈v.P∧(v.cont q).head?=some (s*v.L+(k+1)):=fun q hd=>by
  have yK:r∈(D k).map (·.1):=List.mem_map.2 ⟨_,hd,rfl⟩
  obtain ⟨p,hp,yO⟩:=((h4.lan.lane k g hg).mem r).1 yK
  have h9:=(h4.lan.lane k g hg).cont _ hd
  rw [Gj] at h9
  have zeB:p∈v.P.filter fun p=>bP (aE g p.2) r:=List.mem_filter.2 ⟨hp,cP.2 yO⟩
  rw [sR]
  cases hf:v.P.filter fun p=>bP (aE g p.2) r with
  | nil=>rw [hf] at zeB;cases zeB
  |cons p1 R=>
   have hm:p1∈v.P:=(List.mem_filter.1 (show p1∈v.P.filter fun p=>bP (aE g p.2) r by rw [hf];exact List.mem_cons_self ..)).1
   refine ⟨p1.1,p1.2,R.map (·.2),rfl,hm,?_⟩
   have:v.cont q=_:=h9
   rw [this,hf];rfl
 have HE:=aA (fun (w2:World) (lab2:aP) (m2:cW w2 lab2 (v.tick 1)) (q:Nat) (hd:qN v D k r (some q))=>m2.ends (n:=q) (V7 h1 h4 hk' hd))
 have yv:=aA (fun (w2:World) (lab2:aP) (m2:cW w2 lab2 (v.tick 1))=>show w2.cell? ⟨x,10,none⟩=some (.pointer (some ⟨v.xo,0,none⟩)) from by rw [← h3.x];exact m2.str.cell 10)
 have hT:=h4.tick 1 1 (by omega) (Nat.le_refl _)
 have ρ:=aA (fun (w2:World) (lab2:aP) (m2:cW w2 lab2 (v.tick 1)) (s:Nat) (r1:List V) (hp:(s,r1)∈v.P)=>wD m2.rd hT.row (s:=s) (l:=k+1) (r:=r1) hp (by show k+1<v.gs.length+1;omega))
 rw [show (v.tick 1).x=v.x from rfl,h3.x] at ρ
 rw [show (v.tick 1).cont=v.cont from rfl,show (v.tick 1).xo=v.xo from rfl] at HE
 rw [show (v.tick 1).L=v.L from rfl] at ρ
 have g_:=aA a_;have J0:=aA Lx
 rw [h3.x] at HN HL
 have H2:=aA h2;have H3:=aA h3;have H4:=aA h4
 clear h1 h2 h3 h4 sR ha wT a_ Lx hT
 go_enter Tryz.func87,Tryz.ntmps87
 go_upto_region 3 with ((with_reducible refine HN.out.mono ?_);rintro e w2 ⟨rfl,rfl⟩)
 go_upto_region 4 with ((with_reducible refine HL.out.mono ?_);rintro e w3 ⟨o,h5,rfl,h6⟩;have S3:=aA h6;obtain ⟨lab3,m3,st3⟩:=vT h6;have L3:=aA h5;have M3:=aA m3;have T3:=aA st3;clear h5 h6 m3 st3)
 cases o with
 |none=>
  have yQ:=g_.out L3.out
  rw [show oi none = -1 from rfl]
  go_wp2_with fail
  go_ret3
  rw [yQ]
  exact ⟨rfl,pA.of H2.out S3.out (H3.out.tick 1) (H4.out.tick 1 1 (by omega) (Nat.le_refl _))⟩
 |some q=>
  obtain ⟨s,r1,R,yQ,hp,hh⟩:=J0.out q L3.out
  have HG:=aA yQ;have HP:=aA hp
  have HEn:=aA (HE.out w3 lab3 M3.out q L3.out)
  rw [hh] at HEn
  rw [show oi (some q)=(q:Int) from rfl]
  rw [show oi (some (s*v.L+(k+1)))=((s*v.L+(k+1):Nat):Int) from rfl] at HEn
  obtain ⟨cl,qC⟩ : ∃ cl,s*v.L+(k+1)=cl:=⟨_,rfl⟩
  rw [qC] at HEn
  have oR:=aA qC
  clear qC
  have K_:(0:Int)≤(q:Int):=by omega
  have a10:=yv.out w3 lab3 M3.out
  clear yQ hp hh HE J0 g_
  go_upto_region 7 with ((with_reducible refine HEn.out.mono ?_);rintro e w4 ⟨rfl,h6⟩;have S4:=aA h6;obtain ⟨lab4,m4,st4⟩:=vT h6;have M4:=aA m4;clear h6 m4 st4)
  have HRow:=aA (ρ.out w4 lab4 M4.out s r1 HP.out)
  rw [oR.out] at HRow
  go_wp2_with ((with_reducible refine HRow.out.mono ?_);rintro e w5 ⟨A5,c5,rfl,ho,hx⟩;have O5:=aA ho;have X5:=aA hx;clear ho hx)
  go_ret3
  rw [HG.out]
  exact ⟨A5,c5,_,rfl,O5.out,pA.ext' (pA.of H2.out (S4.out.trans T3.out.1 T3.out.2) (H3.out.tick 1) (H4.out.tick 1 1 (by omega) (Nat.le_refl _))) X5.out⟩
theorem Mw (s L k:Nat) (h:s*L+(k+1)≤4611686018427387904):∃ q1 q2 cl:Nat,Hid (cl=s*L+(k+1))∧IntKind.i64.wrap ((s:Int)*(L:Int))=(q1:Int)∧IntKind.i64.wrap ((q1:Int)+(k:Int))=(q2:Int)∧IntKind.i64.wrap ((q2:Int)+1)=(cl:Int):=
 ⟨s*L,s*L+k,s*L+(k+1),rfl,by rw [Int.natCast_mul];exact IntWalk.i64_in _ (by rw [← Int.natCast_mul];omega),by rw [Int.natCast_add];exact IntWalk.i64_in _ (by omega),by rw [show ((s*L+(k+1):Nat):Int)=((s*L+k:Nat):Int)+1 by omega];exact IntWalk.i64_in _ (by omega)⟩
def zQ (w:World) (B:Nat→Prop) (x:Nat) (S:aY) (N k:Nat) (g:List Nat) (r:List V) (e:Ending) (w':World):Prop:=
 (inB S.rows r=false∧e=.returned (.tuple #[.slice none 0 0,.bool false,.int .i64 62])∧pA w B x S N w')∨
 (inB S.rows r=true∧∃ i,(gY S k (aE g r))[i]?=some r∧uL w B x S N (gY S k (aE g r))[i+1]? e w')
set_option maxRecDepth 100000 in
theorem zj {w:World} {B:Nat→Prop} {x:Nat} {S:aY} {N:Nat} (h:kK w B x S N) (hN:N≤8796093022208) {k:Nat} {g:List Nat} (hgS:S.gs[k]?=some g) {r:List V} {A:Option Addr} {n:Nat} (c:Nat) (ha:bD w A n r) :
 Calls Tryz.prog 88 #[.pointer (some ⟨x,0,none⟩),.int .i64 k,.slice A n c] w (zQ w B x S (N+1) k g r):=by
 obtain ⟨lab,v,D,P0,F0,h1,h2,h3,h4⟩:=h
 have hg:v.gs[k]?=some g:=by rw [← h3.gs];exact hgS
 have hk':k<v.gs.length:=(List.getElem?_eq_some_iff.1 hg).1
 have HN:=aA (qX h1 hk')
 have HS:=aA (Gw h1 h4 hN c ha)
 have sR:=Ge h3 hg (aE g r)
 have hT:=h4.tick 1 1 (by omega) (Nat.le_refl _)
 have Lx:∀ s:Nat,(s,r)∈v.P→∃ q i,s*v.L+(k+1)∈v.cont q∧(gY S k (aE g r))[i]?=some r∧
  ((dQ (v.cont q) (s*v.L+(k+1))=none∧(gY S k (aE g r))[i+1]?=none)∨∃ s1 r1,dQ (v.cont q) (s*v.L+(k+1))=some (s1*v.L+(k+1))∧(s1,r1)∈v.P∧(gY S k (aE g r))[i+1]?=some r1):=fun s hp=>by
  obtain ⟨⟨key,q⟩,hd,hkq⟩:=List.mem_map.1 (((h4.lan.lane k g hg).mem (aE g r)).2 ⟨_,hp,rfl⟩)
  obtain rfl:key=aE g r:=hkq
  have h9:v.cont q=_:=(h4.lan.lane k g hg).cont _ hd
  rw [Gj] at h9
  have zeB:(s,r)∈v.P.filter fun p=>bP (aE g p.2) (aE g r):=List.mem_filter.2 ⟨hp,cP.2 rfl⟩
  obtain ⟨i,hi,e⟩:=List.getElem_of_mem zeB
  have hc:(v.cont q)[i]?=some (s*v.L+(k+1)):=by rw [h9,List.getElem?_map,List.getElem?_eq_getElem hi,e];rfl
  have rT:=tV (Hi (h1.part 7) q) hc
  refine ⟨q,i,List.mem_of_getElem? hc,by rw [sR,List.getElem?_map,List.getElem?_eq_getElem hi,e];rfl,?_⟩
  rw [rT,h9,sR,List.getElem?_map,List.getElem?_map]
  cases hf:(v.P.filter fun p=>bP (aE g p.2) (aE g r))[i+1]? with
  | none=>exact .inl ⟨rfl,rfl⟩
  | some p1=>exact .inr ⟨p1.1,p1.2,rfl,(List.mem_filter.1 (List.mem_of_getElem? hf)).1,rfl⟩
 have Cf:=aA (fun (w2:World) (lab2:aP) (m2:cW w2 lab2 (v.tick 1)) (q cl:Nat) (hc:cl∈v.cont q)=>Lg (m2.part 7) (n:=q) (c:=cl) hc)
 have yv:=aA (fun (w2:World) (lab2:aP) (m2:cW w2 lab2 (v.tick 1))=>show w2.cell? ⟨x,10,none⟩=some (.pointer (some ⟨v.xo,0,none⟩))∧w2.cell? ⟨x,2,none⟩=some (.int .i64 (v.L:Int))∧w2.cell? ⟨v.xo,0,none⟩=some (.int .i64 ((v.most*v.L:Nat):Int)) from by
  rw [← h3.x]
  obtain ⟨LA,cA,LE,cE,at_,en,k1,k2⟩:=(m2.part 7).mem
  exact ⟨m2.str.cell 10,m2.str.cell 2,k1.blk.cell 0⟩)
 have ρ:=aA (fun (w2:World) (lab2:aP) (m2:cW w2 lab2 (v.tick 1)) (s:Nat) (r1:List V) (hp:(s,r1)∈v.P)=>wD m2.rd hT.row (s:=s) (l:=k+1) (r:=r1) hp (by show k+1<v.gs.length+1;omega))
 rw [show (v.tick 1).x=v.x from rfl,h3.x] at ρ
 rw [show (v.tick 1).xo=v.xo from rfl] at Cf
 rw [show (v.tick 1).L=v.L from rfl] at ρ
 have J0:=aA Lx
 have HB:=aA (fun (s:Nat) (hp:(s,r)∈v.P)=>show s*v.L+(k+1)≤4611686018427387904 from by
  have h5:=(h4.row.alive s).2 (List.mem_map.2 ⟨_,hp,rfl⟩)
  have h6:=xE h5
  have h7:=(h1.part 2).ok.len
  have h8:=h4.row.most
  have h9:=h4.row.gsl
  have zat:v.L≤5:=by unfold bI.L;omega
  have yQ:s*v.L≤65536*5:=Nat.mul_le_mul (by omega) zat
  omega)
 rw [h3.x] at HN HS
 have H2:=aA h2;have H3:=aA h3;have H4:=aA h4
 clear h1 h2 h3 h4 sR ha Lx hT
 go_enter Tryz.func88,Tryz.ntmps88
 go_upto_region 3 with ((with_reducible refine HN.out.mono ?_);rintro e w2 ⟨rfl,rfl⟩)
 go_upto_region 4 with ((with_reducible refine HS.out.mono ?_);rintro e w3 ⟨o,h12,rfl,h6⟩;have S3:=aA h6;obtain ⟨lab3,m3,st3⟩:=vT h6;have O1:=aA (Bl H3.out.rows h12);have O2:=aA h12;have M3:=aA m3;have T3:=aA st3;clear h12 h6 m3 st3)
 cases o with
 |none=>
  rw [show (none:Option Int).getD (-1) = -1 from rfl]
  go_wp2_with fail
  go_ret3
  exact .inl ⟨O1.out,rfl,pA.of H2.out S3.out (H3.out.tick 1) (H4.out.tick 1 1 (by omega) (Nat.le_refl _))⟩
 |some z=>
  obtain ⟨s,rfl,hp⟩:=O2.out.1 z rfl
  obtain ⟨q,i,ze4,wS,rT⟩:=J0.out s hp
  obtain ⟨c10,c2,cx⟩:=yv.out w3 lab3 M3.out
  have hb:=HB.out s hp
  obtain ⟨q1,q2,cl,oR,aT,uP,hw3⟩:=Mw s v.L k (by omega)
  have HNx:=aA (fun (w4:World) (h4:aD w3 w4)=>Cf.out w4 lab3 (M3.out.ext h4) q _ ze4)
  have HO:=aA O1.out.1;have X_:=aA wS;have zdv:=aA rT
  rw [← oR.out] at HNx
  obtain ⟨nx,hNV⟩ : ∃ nx:Int,oi (dQ (v.cont q) cl)=nx:=⟨_,rfl⟩
  rw [show (v.tick 1).cont=v.cont from rfl,hNV] at HNx
  have zca:=aA hNV
  have zeI:(0:Int)≤(s:Int):=by omega
  clear hNV hb hp ze4 wS rT O1 O2 yv Cf J0 HB
  rw [show (some (s:Int)).getD (-1)=(s:Int) from rfl]
  go_upto_region 6 with fail
  have c10:=aB c10;have c2:=aB c2
  clear cx
  refine aC 21 (by kernel_rfl) (by kernel_rfl) (by kernel_rfl) ?_
  iterate 15
   refine aK (by kernel_rfl) (by kernel_rfl) ?_
   apply Exists.intro
   refine ⟨fun w1 aT=>?_,fun K hK=>?_⟩
   ·go_simp;first | done | rfl
   go_simp;refine hK _ _ ?_;clear hK K
  iterate 1
   refine aK (by kernel_rfl) (by kernel_rfl) ?_
   apply Exists.intro
   refine ⟨fun w1 aT=>?_,fun K hK=>?_⟩
   ·go_simp;first | done | rfl | exact (HNx.out _ ‹_›).mono fun e w' h=>⟨h.1,by rw [h.2];exact aD.refl _⟩
   go_simp;refine hK _ _ ?_;clear hK K
  iterate 5
   refine aK (by kernel_rfl) (by kernel_rfl) ?_
   apply Exists.intro
   refine ⟨fun w1 aT=>?_,fun K hK=>?_⟩
   ·go_simp;first | done | rfl
   go_simp;refine hK _ _ ?_;clear hK K
  refine aH ⟨rfl,by kernel_rfl,fun w4 hw4=>?_⟩
  simp only [bL]
  refine wpList_nil ?_
  have M4:=aA (M3.out.ext hw4)
  have T4:=aA (show fK w2 lab w4 (v.tick 1) from ⟨lab3,M4.out,T3.out.1,T3.out.2.trans' (aF.of hw4)⟩)
  clear c10 c2 HNx hw4 aT uP hw3
  rcases zdv.out with ⟨m7,sD⟩ | ⟨s1,r1,m7,sD,hn3⟩
  ·have H_:=zca.out
   rw [oR.out,m7] at H_
   obtain rfl:nx = -1:=H_.symm
   have Cu:=aA sD
   clear m7 sD H_ zdv
   go_wp2_with fail
   go_ret3
   refine .inr ⟨HO.out,i,X_.out,?_⟩
   rw [Cu.out]
   exact ⟨rfl,pA.of H2.out T4.out (H3.out.tick 1) (H4.out.tick 1 1 (by omega) (Nat.le_refl _))⟩
  ·have H_:=zca.out
   rw [oR.out,m7] at H_
   have HRow:=aA (ρ.out w4 lab3 M4.out s1 r1 sD)
   obtain ⟨c9,hc9⟩ : ∃ c9,s1*v.L+(k+1)=c9:=⟨_,rfl⟩
   rw [hc9] at HRow H_
   obtain rfl:nx=(c9:Int):=H_.symm
   have Cu:=aA hn3
   have zkL:(0:Int)≤(c9:Int):=by omega
   clear m7 sD hn3 H_ zdv hc9 zca
   go_wp2_with ((with_reducible refine HRow.out.mono ?_);rintro e w5 ⟨A5,c5,rfl,ho,hx⟩;have O5:=aA ho;have X5:=aA hx;clear ho hx)
   go_ret3
   refine .inr ⟨HO.out,i,X_.out,?_⟩
   rw [Cu.out]
   exact ⟨A5,c5,_,rfl,O5.out,pA.ext' (pA.of H2.out T4.out (H3.out.tick 1) (H4.out.tick 1 1 (by omega) (Nat.le_refl _))) X5.out⟩
end Go.Proofs.YtahdiiaadjdmcaaGreat
