import Derived.Test.YtahdiiaadjdmcaaGreatStoE
namespace Go.Proofs.YtahdiiaadjdmcaaGreat
open Go.RowKit
theorem Uy {L:Nat} {gs:List (List Nat)} {G:Nat→m8} {cont:Nat→List Nat} {sL:List (fZ Value)} {lL:Nat} {lrefs:iV} {D:Nat→List (List V × Nat)} {Q:Nat→List aS} (h:eF L gs G cont sL lL lrefs D Q) {k:Nat} {g:List Nat} (hg:gs[k]?=some g) {P1 P2:List aS} {s:Nat} {r:List V} (hQ:Q (k+1)=P1 ++ (s,r) :: P2) :
 ∃ n,(aE g r,n)∈D k∧cont n=eS L k g P1 (aE g r) ++ (s*L+(k+1)) :: eS L k g P2 (aE g r):=by
 have hl:=h.lane k g hg
 have h1:=(hl.mem (aE g r)).2 ⟨(s,r),by rw [hQ];simp,rfl⟩
 rw [List.mem_map] at h1
 obtain ⟨⟨key,n⟩,hd,e⟩:=h1
 dsimp only at e
 subst e
 refine ⟨n,hd,?_⟩
 have h2:=hl.cont _ hd
 rw [hQ] at h2
 dsimp only at h2
 rw [h2,cO,lW]
structure za1 (v v':bI) (Q':Nat→List aS):Prop where
 kept:oQ v v'
 row:dB v'
 P:v'.P=v.P
 sl:v'.sl=v.sl
 fr:v'.fr=v.fr
 refs:v'.refs=v.refs
 E:v'.E=v.E
 lv:v'.lv=v.lv
 K:v'.K≤v.K+3
 fin:∃ D',eF v'.L v'.gs v'.G v'.cont v'.sL v'.lL v'.lrefs D' Q'
 gen:∀ i,aX v'.sL i=aX v.sL i
open Classical in
set_option maxRecDepth 100000 in
theorem Rr {w:World} {lab:aP} {v:bI} {D:Nat→List (List V × Nat)} {Q:Nat→List aS} (hr:dB v) (hlan:eF v.L v.gs v.G v.cont v.sL v.lL v.lrefs D Q) (kX:∀ i,aX v.sL i<1073741824) (hK:v.K≤4611686018427387000)
 {k:Nat} {g:List Nat} (hg:v.gs[k]?=some g) {P1 P2:List aS} {s n0:Nat} {r:List V} (hQ:Q (k+1)=P1 ++ (s,r) :: P2) (hQr:∀ p∈P1 ++ (s,r) :: P2,aV v.width p.2=true∧dP p.2∧uH p.2)
 (hd:(aE g r,n0)∈D k) (h:cW w lab {v with cont:=jV v.cont n0 (eS v.L k g P1 (aE g r) ++ eS v.L k g P2 (aE g r))})
 {A:Option Addr} {n:Nat} (c:Nat) (ha:bD w A n (aE g r)) (hA:∀ a,A=some a→¬ lab.dom a.block) :
 Calls Tryz.prog 143 #[.pointer (some ⟨v.x,0,none⟩),.int .i64 k,.slice A n c] w fun e w'=>∃ v':bI,e=.returned (.tuple #[])∧fK w lab w' v'∧za1 v v' (jV Q (k+1) (P1 ++ P2)):=by
 have hk:=zG hg
 obtain ⟨dW,Lm,hwf⟩:=hQr (s,r) (by simp)
 have j2:=uO hr hg dW Lm hwf
 have fC:=hlan.lane k g hg
 rw [hQ] at fC
 have sG:=hr.keys hg fC hQr
 have rV:∃ xk,v.gx[k]?=some xk:=⟨_,List.getElem?_eq_getElem (by rw [hr.gx];exact hk)⟩
 obtain ⟨xk,hxk⟩:=rV
 have nD:=(hr.gs g (List.mem_of_getElem? hg)).1
 have hq:(pk (aE g r),(n0:Int))∈v.G k:=(fC.entry sG j2).2 ⟨n0,hd,rfl⟩
 have Vm:=hlan.lists k _ hk hd
 have hi:n0 - 1<v.most*v.L:=by
  have h2:=xE Vm.2.1
  have h3:=(h.part 5).ok.len
  exact Nat.lt_of_lt_of_le h2 h3
 have zkN:1≤n0:=Vm.1
 have zdt:xR {v with cont:=jV v.cont n0 (eS v.L k g P1 (aE g r) ++ eS v.L k g P2 (aE g r))} k xk g (aE g r):=⟨hg,by omega,hxk,j2.len,j2.ok,vD _,fC.one sG j2⟩
 have Ja:∀ d∈D k,∀ e∈D k,d.2=e.2→d=e:=fun d iJ e he J7=>(hlan.nums k k d e hk hk iJ he J7).2
 by_cases fI:∃ p∈P1 ++ P2,aE g p.2=aE g r
 ·have aZ:jV v.cont n0 (eS v.L k g P1 (aE g r) ++ eS v.L k g P2 (aE g r)) n0≠[]:=by
   rw [bJ,← cO]
   intro e
   obtain ⟨p,hp,yO⟩:=fI
   exact (fW _ _ _ _ _).1 e p hp yO
  refine (Vc h (by show v.K≤_;exact hK) zdt c ha (q:=n0) hq (by show n0<v.most*v.L+1;omega) aZ).mono ?_
  rintro e w' ⟨rfl,h1⟩
  refine ⟨_,rfl,h1,⟨⟨rfl,rfl,rfl,rfl,rfl,rfl,rfl,rfl,rfl⟩,⟨hr.width,hr.most,hr.gsl,hr.gs,hr.rows,hr.slots,hr.vals,hr.alive,hr.lv,hr.refs,hr.ents,hr.gx⟩,rfl,rfl,rfl,rfl,rfl,rfl,by show v.K+1≤v.K+3;omega,⟨D,?_⟩,fun _=>rfl⟩⟩
  refine hlan.step hk hd fun g' hg'=>?_
  obtain rfl:g=g':=Option.some.inj (hg.symm.trans hg')
  exact fC.shrink hd Ja fI
 ·have j8:∀ p∈P1 ++ P2,aE g p.2≠aE g r:=fun p hp e=>fI ⟨p,hp,e⟩
  have e1:eS v.L k g P1 (aE g r)=[]:=(fW v.L k g P1 _).2 fun p hp=>j8 p (List.mem_append_left _ hp)
  have e2:eS v.L k g P2 (aE g r)=[]:=(fW v.L k g P2 _).2 fun p hp=>j8 p (List.mem_append_right _ hp)
  obtain ⟨i,rfl⟩ : ∃ i,n0=i+1:=⟨n0 - 1,by omega⟩
  rw [Nat.add_sub_cancel] at hi
  have V_:=Vm.2.1
  dsimp only at V_
  rw [Nat.add_sub_cancel] at V_
  obtain ⟨u,hu⟩:=Option.isSome_iff_exists.1 V_
  obtain ⟨gn,wT⟩:=Bd hu
  have zdA:aX v.sL i=gn:=jJ wT
  have vF:=Vm.2.2
  dsimp only at vF
  rw [Nat.add_sub_cancel,zdA] at vF
  have nM:=hr.most
  have zad:=hr.gsl
  have zgp:v.L=v.gs.length+1:=rfl
  have zdQ:v.most*v.L≤1048576:=Nat.le_trans (Nat.mul_le_mul nM.2 (show v.L≤5 by omega)) (by omega)
  refine (Ts h (by show v.K≤_;exact hK) zdt c ha hA (i:=i) (gn:=gn) (u:=u) (by rw [Int.natCast_add] at hq;exact hq) hi zdQ (by show jV v.cont (i+1) _ (i+1)=[];rw [bJ,e1,e2];rfl) wT (by have:=kX i;omega) vF).mono ?_
  rintro e w' ⟨rfl,E',hE',h1⟩
  refine ⟨_,rfl,h1,⟨⟨rfl,rfl,rfl,rfl,rfl,rfl,rfl,rfl,rfl⟩,⟨hr.width,hr.most,hr.gsl,hr.gs,hr.rows,hr.slots,hr.vals,hr.alive,hr.lv,hr.refs,hr.ents,hr.gx⟩,rfl,rfl,rfl,rfl,rfl,rfl,by show v.K+3≤v.K+3;omega,⟨jV D k ((D k).erase (aE g r,i+1)),?_⟩,fun j=>?_⟩⟩
  ·rw [e1,e2]
   refine hlan.stepGone (key:=aE g r) hk hd wT fun g' hg'=>?_
   obtain rfl:g=g':=Option.some.inj (hg.symm.trans hg')
   exact fC.gone hd Ja j8 (by rw [Int.natCast_add];exact hE') []
  ·show aX (v.sL.set i (gn,none)) j=aX v.sL j
   rw [kV (List.getElem?_eq_some_iff.1 wT).1]
   by_cases hj:j=i
   ·rw [if_pos hj,hj,zdA]
   ·rw [if_neg hj]
theorem dB.unlink {v:bI} (h:dB v) {s gn:Nat} {r:List V} {P1 P2:List aS} {u:Value} (hP:v.P=P1 ++ (s,r) :: P2) (hs:v.sl[s]?=some (gn,some u)) {E':m8} (hE:List.Perm v.E ((pk r,(s:Int)) :: E')) (fr:List Nat) (K:Nat) :
 dB {v with sl:=v.sl.set s (gn,none),fr:=fr,lv:=v.lv - 1,P:=P1 ++ P2,refs:=v.refs.del s,E:=E',K:=K}:=by
 have j0:=(List.getElem?_eq_some_iff.1 hs).1
 have jM:List.Perm v.P ((s,r) :: (P1 ++ P2)):=by rw [hP];exact List.perm_middle
 have Oe:∀ p,p∈P1 ++ P2→p∈v.P:=fun p hp=>jM.mem_iff.2 (List.mem_cons_of_mem _ hp)
 have yy:=(jM.map (·.1)).nodup_iff.1 h.slots
 have zc2:=(jM.map (·.2)).nodup_iff.1 h.vals
 simp only [List.map_cons,List.nodup_cons] at yy zc2
 refine ⟨h.width,h.most,h.gsl,h.gs,fun p hp=>h.rows p (Oe p hp),yy.2,zc2.2,fun i=>?_,?_,fun p hp=>?_,?_,h.gx⟩
 ·show (oV (v.sl.set s (gn,none)) i).isSome=true ↔ i∈(P1 ++ P2).map (·.1)
  rw [uQ j0]
  by_cases hi:i=s
  ·subst hi
   rw [if_pos rfl]
   exact ⟨fun h1=>(by cases h1),fun h1=>absurd h1 yy.1⟩
  ·rw [if_neg hi,h.alive i,(jM.map (·.1)).mem_iff]
   simp only [List.map_cons,List.mem_cons]
   exact ⟨fun h1=>h1.resolve_left hi,.inr⟩
 ·show v.lv - 1=(P1 ++ P2).length
  have h1:=jM.length_eq
  have h2:=h.lv
  simp only [List.length_cons] at h1
  omega
 ·show (v.refs.del s) p.1=some (.agg #[.int .i64 p.1,.int .i64 (aX (v.sl.set s (gn,none)) p.1:Int)])
  have aZ:p.1≠s:=fun e=>yy.1 (by rw [← e];exact List.mem_map.2 ⟨p,hp,rfl⟩)
  rw [kV j0,if_neg aZ,iV.del,if_neg aZ]
  exact h.refs p (Oe p hp)
 ·show List.Perm E' ((P1 ++ P2).map fun p=>(pk p.2,(p.1:Int)))
  have h1:=hE.symm.trans (h.ents.trans (jM.map fun p:aS=>(pk p.2,(p.1:Int))))
  simp only [List.map_cons] at h1
  exact (List.perm_cons _).1 h1
theorem dB.ent {v:bI} (h:dB v) {s:Nat} {r:List V} (hp:(s,r)∈v.P):(pk r,(s:Int))∈v.E∧∀ a b,(pk r,a)∈v.E→(pk r,b)∈v.E→a=b:=by
 have bE:(pk r,(s:Int))∈v.E:=h.ents.mem_iff.2 (List.mem_map.2 ⟨(s,r),hp,rfl⟩)
 have uU:∀ p∈v.P,cQ p.2=true∧uH p.2:=fun p hp=>by
  have h1:=h.rows p hp
  have h2:=h1.1
  unfold aV at h2
  rw [Bool.and_eq_true] at h2
  exact ⟨h2.2,h1.2.2⟩
 have Tj:∀ a,(pk r,a)∈v.E→a=(s:Int):=fun a ha=>by
  obtain ⟨p,oK,e⟩:=List.mem_map.1 (h.ents.mem_iff.1 ha)
  injection e with e1 e2
  have h1:=uU p oK
  have h2:=uU _ hp
  have h3:=Ba h1.1 h1.2 h2.1 h2.2 e1
  have h4:p=(s,r):=val_inj h.vals oK hp h3
  rw [← e2,h4]
 exact ⟨bE,fun a b ha hb=>(Tj a ha).trans (Tj b hb).symm⟩
where
 val_inj {P:List aS} (h:(P.map (·.2)).Nodup) {p q:aS} (hp:p∈P) (hq:q∈P) (e:p.2=q.2):p=q:=by
  obtain ⟨i,hi⟩:=List.mem_iff_getElem?.1 hp
  obtain ⟨j,hj⟩:=List.mem_iff_getElem?.1 hq
  have h4:(P.map (·.2))[i]?=(P.map (·.2))[j]?:=by rw [List.getElem?_map,List.getElem?_map,hi,hj];simp [e]
  have h5:i<(P.map (·.2)).length:=by rw [List.length_map];exact (List.getElem?_eq_some_iff.1 hi).1
  have h6:=(List.getElem?_inj h5 h).1 h4
  subst h6
  exact Option.some.inj (hi.symm.trans hj)
end Go.Proofs.YtahdiiaadjdmcaaGreat
namespace Go.Proofs.YtahdiiaadjdmcaaGreat
open Go.RowKit
structure mI (v v':bI) (s:Nat) (P':List aS):Prop where
 kept:oQ v v'
 P:v'.P=P'
 fs:fJ v'.most v'.sl v'.fr=s :: fJ v.most v.sl v.fr
 K:v'.K≤v.K+20
 gs:∀ i,aX v'.sl i=aX v.sl i
 gL:∀ i,aX v'.sL i=aX v.sL i
theorem gK.low {sl sL:List (fZ Value)} {M:Nat} (h1:∀ i,aX sl i<M) (h2:∀ i,aX sL i<M):gK sl sL M:=
 ⟨fun i=>by have:=h1 i;split <;> omega,fun i=>by have:=h2 i;split <;> omega⟩
def r_ (w:World) (lab:aP) (v:bI) (P':List aS) (vals:List Value) (bh l:Nat) (w':World):Prop:=
 ∃ lab' v' D',cW w' lab' v'∧(∀ b,lab'.dom b→lab.dom b∨w.heap.size≤b)∧aF lab.dom w w'∧oQ v v'∧v'.P=v.P∧v'.sl=v.sl∧v'.fr=v.fr∧v'.refs=v.refs∧v'.E=v.E∧dB v'∧eF v'.L v'.gs v'.G v'.cont v'.sL v'.lL v'.lrefs D' (Ql v.P P' l)∧(∀ i,aX v'.sL i=aX v.sL i)∧v'.K≤v.K+3*l∧aL w' bh 3 (fA vals (.int .i64 0) l)∧¬ lab'.dom bh
theorem cB.ofBlk {w:World} {bh:Nat} {xs:List Int} (h:aL w bh 3 (fA (xs.map (Value.int .i64)) (.int .i64 0) xs.length)) (hb:xs.length≤1048576):w.ownsRow bh 3 1 (.slice (some ⟨bh,0,none⟩) xs.length xs.length) xs.length (xs.map (Value.int .i64)):=by
 have e:fA (xs.map (Value.int .i64)) (.int .i64 0) xs.length=(xs.map (Value.int .i64)).toArray:=by
  have h1:=Ns (xs.map (Value.int .i64)) (.int .i64 0)
  rw [List.length_map] at h1
  exact h1
 rw [e] at h
 refine ⟨by simp,.inr ⟨bh,xs.length,_,rfl,Nat.le_refl _,h,Nat.le_refl _,by unfold maxLen;omega,by simp,?_⟩⟩
 simp only [List.take_of_length_le,List.length_map,Nat.mul_one,Nat.le_refl]
theorem Ju {sl sl0:List (fZ Value)} {i g:Nat} {u:Value} (h:sl[i]?=some (g,some u)) (e:sl=sl0) (j:Nat):aX (sl.set i (g,none)) j=aX sl0 j:=by
 subst e
 rw [kV (List.getElem?_eq_some_iff.1 h).1]
 by_cases hj:j=i
 ·rw [if_pos hj,hj,jJ h]
 ·rw [if_neg hj]
def eU (w:World) (lab:aP) (w':World) (lab':aP):Prop:=(∀ b,lab'.dom b→lab.dom b∨w.heap.size≤b)∧aF lab.dom w w'
theorem bB {w w1 w2:World} {lab lab1 lab2:aP} (h:eU w lab w1 lab1) (k:eU w1 lab1 w2 lab2):eU w lab w2 lab2:=
 ⟨fun b hb=>(k.1 b hb).elim (h.1 b) fun h9=>.inr (Nat.le_trans h.2.size h9),h.2.trans k.2 fun g hg hl=>(h.1 g hg).resolve_right (by omega)⟩
theorem eV {w w1 w2:World} {lab lab1:aP} (h:eU w lab w1 lab1) (k:aD w1 w2):eU w lab w2 lab1:=⟨h.1,h.2.trans' (aF.of k)⟩
theorem Hi {w:World} {B:Nat→Prop} {x cells lists:Nat} {cont:Nat→List Nat} (h:rU w B x cells lists cont) (n:Nat):(cont n).Nodup:=by
 obtain ⟨LA,cA,LE,cE,at_,en,h1,h2⟩:=h.mem
 exact h2.nd n
set_option maxRecDepth 100000 in
set_option maxHeartbeats 2000000 in
theorem zV {w:World} {lab:aP} {v:bI} {D:Nat→List (List V × Nat)} {N M:Nat} (h:cW w lab v) (gI:oD v D N) (Jl:∀ i,aX v.sl i<M) (hM2:∀ i,aX v.sL i<M) (hM:M≤1073741824) (hK:v.K≤4611686018427380000)
 {P1 P2:List aS} {s:Nat} {r:List V} (hP:v.P=P1 ++ (s,r) :: P2) :
 Calls Tryz.prog 137 #[.pointer (some ⟨v.x,0,none⟩),.int .i64 s] w fun e w'=>∃ (bh:Nat) (v':bI) (D':Nat→List (List V × Nat)),e=.returned (.slice (some ⟨bh,0,none⟩) v.L v.L)∧mI v v' s (P1 ++ P2)∧
  w.heap.size≤bh∧w'.ownsRow bh 3 1 (.slice (some ⟨bh,0,none⟩) v.L v.L) v.L ((eC v.gs r P2).map (Value.int .i64))∧(∃ lab',cW w' lab' v'∧(∀ b,lab'.dom b→lab.dom b∨w.heap.size≤b)∧aF lab.dom w w'∧¬ lab'.dom bh)∧oD v' D' M:=by
 obtain ⟨i0,eQ,hz0,hz1,eO⟩:=info_parts rB
 have bE:(s,r)∈v.P:=by rw [hP];simp
 have Le:=gI.row.rows _ bE
 obtain ⟨A,nA,c,hth,dY⟩:=(h.part 8).1 s r bE
 obtain rfl:=dY.1.1
 obtain ⟨gn,wT⟩:=Bd hth
 have zdj:aX v.sl s=gn:=jJ wT
 have vF:=gI.row.refs _ bE
 dsimp only at vF
 rw [zdj] at vF
 have Lm:s<v.most:=Nat.lt_of_lt_of_le (xE (by rw [hth];rfl)) (h.part 2).ok.len
 have zO:=gI.row.most
 have zad:=gI.row.gsl
 have zat:v.L≤5:=by unfold bI.L;omega
 have zcn:0<v.L:=by unfold bI.L;omega
 have ziR:=aA (show v.L=(eC v.gs r P2).length by simp [eC,bI.L])
 have q_:r.length≤30:=by
  have h1:=Le.1
  unfold aV at h1
  rw [Bool.and_eq_true,decide_eq_true_eq] at h1
  rw [h1.1];exact gI.row.width
 have uE:=mT (P:=Tryz.prog) 23 3 i0 _ Tryz.underlying23 eQ hz0 (by omega) .i64 .i64 v.L (by omega)
 simp only [hz1] at uE
 have a4:w.cell? ⟨v.x,4,none⟩=some (.pointer (some ⟨v.xs,0,none⟩)):=h.str.cell 4
 have a5:w.cell? ⟨v.x,5,none⟩=some (.map (some v.rm)):=h.str.cell 5
 have qH:∀ w3,aD w w3→(Instr.lookup 124 (.map (some v.rm)) (.int .i64 (s:Int)) false).run Tryz.prog w3=.ok (.agg #[.int .i64 s,.int .i64 gn]) w3:=fun w3 h3=>by
  obtain ⟨-,nn,-,hmap⟩:=(h.ext h3).part 3
  have h9:=vL 124 186 Tryz.underlying124 (z:=.agg #[.int .i64 0,.int .i64 0]) (fun w=>yw w) hmap (k:=s) (by omega)
  rw [vF] at h9
  exact h9
 have HAt:=aA (fun (w3:World) (h3:aD w w3)=>Fe ((h.ext h3).part 2) wT)
 have vU:=aA (fun (wx:World) (labx:aP) (vx:bI) (hx:cW wx labx vx) (h1:vx.sl=v.sl) (h2:(s,r)∈vx.P)=>show bD wx A r.length r from by
  obtain ⟨A',n',c',e1,e2⟩:=(hx.part 8).1 s r h2
  rw [h1,hth] at e1
  obtain ⟨rfl,rfl,rfl⟩ : A=A'∧r.length=n'∧c=c':=by injection e1 with e1;injection e1 with e1 e3 e4;exact ⟨e1,e3,e4⟩
  exact ⟨e2.1,by omega,Le.2.1,Le.2.2⟩)
 have HH:=aA h;have Gr:=aA gI;have HP:=aA hP;have Rh:=aA bE;have Md:=aA Le;have zkM:=aA hth;have zfU:=aA wT;have zfH:=aA vF;have Zb:=aA Jl;have zh1:=aA hM2;have zfo:=aA zdj
 clear h gI hP bE Le dY hth wT vF Jl hM2 zdj hz0 hz1 eO eQ
 go_enter Tryz.func137,Tryz.ntmps137
 go_upto_region 1 with fail
 have a4:=aB a4;have a5:=aB a5
 refine aC 16 (by kernel_rfl) (by kernel_rfl) (by kernel_rfl) ?_
 iterate 10
  refine aK (by kernel_rfl) (by kernel_rfl) ?_
  apply Exists.intro
  refine ⟨fun w1 aT=>?_,fun K hK=>?_⟩
  ·go_simp;first | done | rfl
  go_simp;refine hK _ _ ?_;clear hK K
 iterate 1
  refine aK (by kernel_rfl) (by kernel_rfl) ?_
  apply Exists.intro
  refine ⟨fun w1 aT=>?_,fun K hK=>?_⟩
  ·go_simp;first | done | rfl | exact HAt.out _ ‹_›
  go_simp;refine hK _ _ ?_;clear hK K
 iterate 5
  refine aK (by kernel_rfl) (by kernel_rfl) ?_
  apply Exists.intro
  refine ⟨fun w1 aT=>?_,fun K hK=>?_⟩
  ·go_simp;first | done | rfl
  go_simp;refine hK _ _ ?_;clear hK K
 refine aH ⟨rfl,by kernel_rfl,fun w1 aT=>?_⟩
 simp only [bL]
 refine wpList_nil ?_
 have S1:=aA (HH.out.ext aT);have E1:=aA aT
 clear a4 a5 qH HAt
 have a2:w1.cell? ⟨v.x,2,none⟩=some (.int .i64 (v.L:Int)):=S1.out.str.cell 2
 clear aT
 go_upto_region 3 with fail
 have υ:=aA (show (Value.int .i64 (1:Int))=.int .i64 1 from rfl)
 clear υ
 obtain ⟨vals,hvals⟩ : ∃ vals,vals=(eC v.gs r P2).map (Value.int .i64):=⟨_,rfl⟩
 have n_:vals.length=v.L:=by rw [hvals,List.length_map];exact ziR.out.symm
 have Vi:=aA (show aL (w1.alloc (.cells (madeCells #[.int .i64 0] v.L) 3)) w1.heap.size 3 (fA vals (.int .i64 0) 0) by rw [← n_,yC];exact aL.new _ _ _)
 have E2:=aA (aD.alloc w1 (.cells (madeCells #[.int .i64 0] v.L) 3))
 have zbL:=aA (show w.heap.size≤w1.heap.size from E1.out.size)
 have zgz:=aA (show ¬ lab.dom w1.heap.size from fun ⟨j,hj⟩=>by have:=S1.out.lt _ _ hj;omega)
 generalize w1.alloc (.cells (madeCells #[.int .i64 0] v.L) 3)=w2 at *
 generalize w1.heap.size=bh at *
 have S2:=aA (S1.out.ext E2.out)
 have X2:=aA (E1.out.trans E2.out)
 have Kl:=aA hvals;have υ:=aA n_
 clear hvals n_ a2 E1 E2 S1 uE
 have a2:w2.cell? ⟨v.x,2,none⟩=some (.int .i64 (v.L:Int)):=S2.out.str.cell 2
 have zba:=aA (show r_ w lab v (P1 ++ P2) vals bh 0 w2 from ⟨lab,v,D,S2.out,fun _ hb=>.inl hb,aF.of X2.out,oQ.refl v,rfl,rfl,rfl,rfl,rfl,Gr.out.row,by rw [Ro];exact Gr.out.lan,fun _=>rfl,by omega,Vi.out,zgz.out⟩)
 clear S2 Vi
 go_wp2_with fail
 clear a2
 go_loopw [8,9,10,34] (fun _ _ _ s34 w'=>∃ l:Nat,l≤v.L∧s34=.int .i64 l∧Hid (r_ w lab v (P1 ++ P2) vals bh l w')) (fun _ _ _ s34 _=>v.L - (intOf s34).toNat)
 case atStart=>exact ⟨0,by omega,rfl,zba⟩
 case round=>
  obtain ⟨l,Ej,rfl,hI⟩:=hrel
  obtain ⟨lab1,v1,Dl,s1,d1,c1,k1,eP,esl,efr,erf,eE,R1,L1,g1,pI,B1,hnb1⟩:=hI.out
  have S1:=aA s1;have D1:=aA d1;have C1:=aA c1;have K1:=aA k1;have EP:=aA eP;have ES:=aA esl;have EF:=aA efr;have ER:=aA erf;have EE:=aA eE;have Qp:=aA R1;have zc:=aA L1;have kk:=aA g1;have Y7:=aA pI;have xz:=aA B1;have qp:=aA hnb1
  clear s1 d1 c1 k1 eP esl efr erf eE R1 L1 g1 pI B1 hnb1 hI
  by_cases vg:l<v.L
  ·obtain ⟨o,ho1,ho2,ho3⟩:=Et v.gs r P2 v.L l (by unfold bI.L at vg;omega)
   have zcX:=aA (show ∃ (nL:Nat) (E1 E2:List Nat),v1.cont nL=E1 ++ (s*v.L+l) :: E2∧E2.head?=o.map (fun s=>s*v.L+l)∧(l=0→nL=0∧E1=(P1.map fun p:aS=>p.1*v.L)∧E2=(P2.map fun p:aS=>p.1*v.L))∧(∀ k g,l=k+1→v1.gs[k]?=some g→(aE g r,nL)∈Dl k∧E1=eS v.L k g P1 (aE g r)∧E2=eS v.L k g P2 (aE g r)) from by
    rcases Nat.eq_zero_or_pos l with rfl | hl0
    ·refine ⟨0,P1.map fun p:aS=>p.1*v.L,P2.map fun p:aS=>p.1*v.L,?_,ho2 rfl,fun _=>⟨rfl,rfl,rfl⟩,fun k g e=>by omega⟩
     rw [zc.out.c0,Jw,HP.out,List.map_append,List.map_cons,K1.out.L];rfl
    ·obtain ⟨k,rfl⟩ : ∃ k,l=k+1:=⟨l - 1,by omega⟩
     have Ix:k<v.gs.length:=by unfold bI.L at vg;omega
     have Ni:v1.gs[k]?=some v.gs[k]:=by rw [K1.out.gs];exact List.getElem?_eq_getElem Ix
     obtain ⟨n,hd,hc⟩:=Uy zc.out Ni (P1:=P1) (P2:=P2) (s:=s) (r:=r) (by rw [Jw,HP.out])
     rw [K1.out.L] at hc
     refine ⟨n,_,_,hc,ho3 k _ rfl (List.getElem?_eq_getElem Ix),fun e=>by omega,fun k' g e hg=>?_⟩
     obtain rfl:k=k':=by omega
     obtain rfl:v.gs[k]=g:=Option.some.inj (Ni.symm.trans hg)
     exact ⟨hd,rfl,rfl⟩)
   obtain ⟨nL,E1,E2,hcont,hhead,hl0,qH⟩:=zcX.out
   have HO:=aA ho1;have HC:=aA hcont;have zde:=aA hhead;have zjA:=aA hl0;have zdy:=aA qH
   clear ho1 ho2 ho3 hcont hhead hl0 qH zcX
   have zfl:s*v.L+l<v.most*v.L:=by
    have h1:s*v.L+v.L≤v.most*v.L:=by rw [← Nat.succ_mul];exact Nat.mul_le_mul_right _ Lm
    omega
   have zdQ:v.most*v.L≤327680:=Nat.le_trans (Nat.mul_le_mul zO.2 zat) (by omega)
   obtain ⟨q1,cl,oR,hwl1,hwl2⟩:=xG s v.L l (by omega)
   have Cf:=aA (fun (w3:World) (h3:aD wr w3)=>Lg ((S1.out.ext h3).part 7) (n:=nL) (c:=s*v.L+l) (by rw [HC.out];simp))
   have rT:dQ (v1.cont nL) (s*v.L+l)=o.map fun s=>s*v.L+l:=by
    have jP:=Hi (S1.out.part 7) nL
    rw [HC.out] at jP ⊢
    rw [tO jP,zde.out]
   obtain ⟨nx,hNV⟩ : ∃ nx:Int,oi (o.map fun s=>s*v.L+l)=nx:=⟨_,rfl⟩
   rw [rT,← oR.out,hNV] at Cf
   have zca:=aA hNV
   clear rT zfl hNV
   have a10:wr.cell? ⟨v.x,10,none⟩=some (.pointer (some ⟨v1.xo,0,none⟩)):=by rw [← K1.out.x];exact S1.out.str.cell 10
   have a2:wr.cell? ⟨v.x,2,none⟩=some (.int .i64 (v.L:Int)):=by rw [← K1.out.x,← K1.out.L];exact S1.out.str.cell 2
   go_upto_region 6 with fail
   have a10:=aB a10;have a2:=aB a2
   refine aC 20 (by kernel_rfl) (by kernel_rfl) (by kernel_rfl) ?_
   iterate 14
    refine aK (by kernel_rfl) (by kernel_rfl) ?_
    apply Exists.intro
    refine ⟨fun w1 aT=>?_,fun K hK=>?_⟩
    ·go_simp;first | done | rfl
    go_simp;refine hK _ _ ?_;clear hK K
   iterate 1
    refine aK (by kernel_rfl) (by kernel_rfl) ?_
    apply Exists.intro
    refine ⟨fun w1 aT=>?_,fun K hK=>?_⟩
    ·go_simp;first | done | rfl | exact (Cf.out _ ‹_›).mono fun e w' h=>⟨h.1,by rw [h.2];exact aD.refl _⟩
    go_simp;refine hK _ _ ?_;clear hK K
   iterate 5
    refine aK (by kernel_rfl) (by kernel_rfl) ?_
    apply Exists.intro
    refine ⟨fun w1 aT=>?_,fun K hK=>?_⟩
    ·go_simp;first | done | rfl
    go_simp;refine hK _ _ ?_;clear hK K
   refine aH ⟨rfl,by kernel_rfl,fun w3 hw3=>?_⟩
   simp only [bL]
   refine wpList_nil ?_
   have S3:=aA (S1.out.ext hw3)
   have B3:=aA (xz.out.ext hw3)
   have C3:=aA (C1.out.trans' (aF.of hw3))
   clear a10 a2 Cf S1 xz hw3
   have e1:w3.cell? ⟨bh,l,none⟩=some (.int .i64 0):=(B3.out.cell l).trans (Bk _ _ l (by have:=υ.out;omega))
   have e2:w3.frozen? ⟨bh,l,none⟩=false:=B3.out.frozen l
   go_upto_if 59 with fail
   have C4:=aA (C3.out.setCell (p:=⟨bh,l,none⟩) (.inr zbL.out) (.int .i64 (-1)))
   have c4:aF (fun g=>g=bh) w3 (w3.setCell ⟨bh,l,none⟩ (.int .i64 (-1))):=aF.setCell (B:=fun g=>g=bh) (aF.refl _ w3) (p:=⟨bh,l,none⟩) (.inl rfl) _
   have S4:=aA (S3.out.chg c4 fun g hg e=>qp.out (e ▸ hg))
   have B4:=aA (B3.out.set_ l (.int .i64 (-1)))
   have zh2:vals[l]?=some (.int .i64 (oi o)):=by rw [Kl.out,List.getElem?_map,HO.out];rfl
   have zim:=aA zh2
   clear e1 e2 S3 B3 C3 c4 zh2
   generalize w3.setCell ⟨bh,l,none⟩ (.int .i64 (-1))=w4 at *
   go_cut [9] from 35 to 93 (fun _ wx=>Hid (cW wx lab1 v1)∧Hid (aF lab.dom w wx)∧Hid (aL wx bh 3 (fA vals (.int .i64 0) (l+1))))
   case first=>
    cases o with
    |none=>
     obtain rfl : -1=nx:=zca.out
     go_wp2_with fail
     go_meet
     refine ⟨S4,C4,?_⟩
     rw [← tX _ _ l _ zim.out];exact B4
    |some a=>
     have Vr:∃ ca:Nat,Hid (ca=a*v.L+l)∧(0:Int)≤(ca:Int)∧(ca:Int).tdiv (v.L:Int)=(a:Int):=⟨a*v.L+l,rfl,by omega,by
      have h1:(a*v.L+l) / v.L=a:=by rw [Nat.mul_comm,Nat.mul_add_div zcn,Nat.div_eq_of_lt vg,Nat.add_zero]
      rw [Int.tdiv_eq_ediv_of_nonneg (by omega),← Int.natCast_ediv,h1]⟩
     obtain ⟨ca,Vt,hca0,hca1⟩:=Vr
     obtain rfl:(ca:Int)=nx:=by rw [Vt.out];exact zca.out
     have a2:w4.cell? ⟨v.x,2,none⟩=some (.int .i64 (v.L:Int)):=by rw [← K1.out.x,← K1.out.L];exact S4.out.str.cell 2
     have e1:w4.cell? ⟨bh,l,none⟩=some (.int .i64 (-1)):=(B4.out.cell l).trans (by rw [Array.getElem?_setIfInBounds_self_of_lt];rw [I1 _ _ _ (by have:=υ.out;omega)];have:=υ.out;omega)
     have e2:w4.frozen? ⟨bh,l,none⟩=false:=B4.out.frozen l
     have xm:¬ (v.L:Int)=0:=by omega
     have sW:wrap64 (a:Int)=(a:Int):=by
      have h1:(a*v.L+l)∈v1.cont nL:=by
       obtain ⟨y,hy⟩ : ∃ y,E2=(a*v.L+l) :: y:=by
        have h1:=zde.out
        cases E2 with
        | nil=>cases h1
        |cons x y=>
         simp only [List.head?_cons,Option.map_some,Option.some.injEq] at h1
         exact ⟨y,by rw [h1]⟩
       rw [HC.out,hy];simp
      have h2:=Hq (S4.out.part 7) h1
      rw [K1.out.most,K1.out.L] at h2
      have h3:a≤a*v.L:=Nat.le_mul_of_pos_right _ zcn
      exact IntWalk.wrap64_in _ (by omega)
     go_wp2_with fail
     go_meet
     have c5:aF (fun g=>g=bh) w4 (w4.setCell ⟨bh,l,none⟩ (.int .i64 a)):=aF.setCell (B:=fun g=>g=bh) (aF.refl _ w4) (p:=⟨bh,l,none⟩) (.inl rfl) _
     refine ⟨aA (S4.out.chg c5 fun g hg e=>qp.out (e ▸ hg)),aA (C4.out.setCell (p:=⟨bh,l,none⟩) (.inr zbL.out) _),?_⟩
     have h1:=B4.out.set_ l (.int .i64 (a:Int))
     have Nf:vals[l]?=some (.int .i64 (a:Int)):=zim.out
     rw [Array.setIfInBounds_setIfInBounds,tX _ _ l _ Nf] at h1
     exact h1
   case rest=>
    obtain ⟨S5,C5,B5⟩:=hcut
    clear S4 C4 B4
    have a10:wc.cell? ⟨v.x,10,none⟩=some (.pointer (some ⟨v1.xo,0,none⟩)):=by rw [← K1.out.x];exact S5.out.str.cell 10
    have a2:wc.cell? ⟨v.x,2,none⟩=some (.int .i64 (v.L:Int)):=by rw [← K1.out.x,← K1.out.L];exact S5.out.str.cell 2
    go_upto_region 10 with fail
    have a10:=aB a10;have a2:=aB a2
    refine aC 12 (by kernel_rfl) (by kernel_rfl) (by kernel_rfl) ?_
    iterate 12
     refine aK (by kernel_rfl) (by kernel_rfl) ?_
     apply Exists.intro
     refine ⟨fun w1 aT=>?_,fun K hK=>?_⟩
     ·go_simp;first | done | rfl
     go_simp;refine hK _ _ ?_;clear hK K
    refine aH ⟨rfl,by kernel_rfl,fun w6 hw6=>?_⟩
    simp only [bL,List.drop]
    clear a10 a2
    have HRem:=aA ((S5.out.ext hw6).remove HC.out)
    rw [← oR.out] at HRem
    have X6:=aA hw6
    clear hw6
    go_upto_if 83 with ((with_reducible refine HRem.out.mono ?_);rintro e w7 ⟨rfl,lab7,s7,d7,c7⟩;have S7:=aA s7;have D7:=aA d7;have C7:=aA c7;clear s7 d7 c7)
    have B6:=aA (B5.out.ext X6.out)
    have B7:=aA (C7.out.blk B6.out qp.out)
    have zei:=aA (show ¬ lab7.dom bh from fun hd=>by
     rcases D7.out _ hd with h9 | h9
     ·exact qp.out h9
     ·have:=B6.out.lt;omega)
    have zgt:=aA ((C5.out.trans' (aF.of X6.out)).trans C7.out fun g hg hl=>(D1.out g hg).resolve_right (by omega))
    have zhc:=aA (show ∀ b,lab7.dom b→lab.dom b∨w.heap.size≤b from fun b hb=>by
     rcases D7.out b hb with h9 | h9
     ·exact D1.out b h9
     ·exact .inr (Nat.le_trans C5.out.size (Nat.le_trans X6.out.size h9)))
    clear HRem B5 B6 X6 C7 D7
    rcases Nat.eq_zero_or_pos l with rfl | hl0
    ·go_wp2_with fail
     go_roundw
     case rel=>
      refine ⟨1,by omega,by go_num,lab7,_,Dl,S7.out,zhc.out,zgt.out,⟨K1.out.x,K1.out.width,K1.out.most,K1.out.gs,K1.out.marked,K1.out.uA,K1.out.uC,K1.out.un,K1.out.U⟩,EP.out,ES.out,EF.out,ER.out,EE.out,?_,?_,kk.out,?_,B7.out,zei.out⟩
      ·have hR:=Qp.out
       exact ⟨hR.width,hR.most,hR.gsl,hR.gs,hR.rows,hR.slots,hR.vals,hR.alive,hR.lv,hR.refs,hR.ents,hR.gx⟩
      ·obtain ⟨rfl,rfl,rfl⟩:=zjA.out (by first | trivial | rfl)
       have h1:=zc.out.step0 (P1 ++ P2)
       have h2:(P1.map fun p:aS=>p.1*v.L) ++ (P2.map fun p:aS=>p.1*v.L)=(P1 ++ P2).map fun p:aS=>p.1*v1.L:=by rw [List.map_append,K1.out.L]
       rw [F3] at h1
       rw [h2]
       exact h1
      ·have:=Y7.out
       show v1.K≤v.K+3*1
       omega
     case measure=>simp [intOf];omega
    ·obtain ⟨k,rfl⟩ : ∃ k,l=k+1:=⟨l - 1,by omega⟩
     have Ix:k<v.gs.length:=by unfold bI.L at vg;omega
     have Ni:v1.gs[k]?=some v.gs[k]:=by rw [K1.out.gs];exact List.getElem?_eq_getElem Ix
     obtain ⟨hd,rfl,rfl⟩:=zdy.out k _ rfl Ni
     have nD:=(Qp.out.gs _ (List.mem_of_getElem? Ni)).1
     have Mt:=vU.out w7 lab7 _ S7.out ES.out (by rw [show ({v1 with cont:=jV v1.cont nL (eS v.L k v.gs[k] P1 (aE v.gs[k] r) ++ eS v.L k v.gs[k] P2 (aE v.gs[k] r))}:bI).P=v1.P from rfl,EP.out];exact Rh.out)
     have HKey:=aA (Qz S7.out Ni (by omega) (by show v1.gs.length≤_;have:=Qp.out.gsl;omega) c Mt)
     have j2:=uO Qp.out Ni (r:=r) (by rw [K1.out.width];exact Md.out.1) Md.out.2.1 Md.out.2.2
     have HShut:=aA (fun (A':Option Addr) (c':Nat) (w8:World) (hx:aD w7 w8) (ho:w8.ownsRow w7.heap.size 85 3 (.slice A' (aE v.gs[k] r).length c') (aE v.gs[k] r).length (aO (aE v.gs[k] r)))=>
      Rr Qp.out zc.out (fun i=>by rw [kk.out i];have:=zh1.out i;omega) (by have:=Y7.out;omega) Ni (P1:=P1) (P2:=P2) (s:=s) (r:=r) (n0:=nL) (by rw [Jw,HP.out])
       (fun p hp=>by rw [K1.out.width];rw [← HP.out] at hp;exact Gr.out.row.rows p hp) hd (lab:=lab7) (w:=w8) (by rw [K1.out.L];exact S7.out.ext hx) c'
       ⟨aW.own ho,by rw [j2.len];omega,j2.small,j2.wf⟩ (fun a ha ⟨j,hj⟩=>by have h1:=wC ho a ha;have h2:=S7.out.lt _ _ hj;omega))
     rw [show ({v1 with cont:=jV v1.cont nL (eS v.L k v.gs[k] P1 (aE v.gs[k] r) ++ eS v.L k v.gs[k] P2 (aE v.gs[k] r))}:bI).x=v1.x from rfl,K1.out.x] at HKey
     rw [K1.out.x] at HShut
     have oI:(((k+1:Nat):Int) - 1)=(k:Int):=by omega
     have zjL:=aA (show wr.heap.size≤wr.heap.size from Nat.le_refl _)
     clear Ni Mt j2 nD hd
     go_wp2_with (first
      | ((with_reducible refine HKey.out.mono ?_);rintro e w8 ⟨A8,c8,rfl,h8,x8⟩;have O8:=aA h8;have X8:=aA x8;clear h8 x8)
      | ((with_reducible refine (HShut.out A8 c8 w8 X8.out O8.out).mono ?_);rintro e w9 ⟨v9,rfl,⟨lab9,s9,d9,c9⟩,br⟩;have S9:=aA s9;have D9:=aA d9;have C9:=aA c9;have BR:=aA br;clear s9 d9 c9 br))
     go_roundw
     case rel=>
      have ziM:=B7.out.ext X8.out
      obtain ⟨Dn,hDn⟩:=BR.out.fin
      rw [F3] at hDn
      refine ⟨k+1+1,by omega,by go_num,lab9,v9,Dn,S9.out,fun b hb=>?_,(zgt.out.trans' (aF.of X8.out)).trans C9.out fun g hg hl=>(zhc.out g hg).resolve_right (by omega),K1.out.trans BR.out.kept,BR.out.P.trans EP.out,BR.out.sl.trans ES.out,BR.out.fr.trans EF.out,BR.out.refs.trans ER.out,BR.out.E.trans EE.out,BR.out.row,hDn,fun i=>(BR.out.gen i).trans (kk.out i),?_,C9.out.blk ziM zei.out,fun hd=>?_⟩
      ·rcases D9.out b hb with h9 | h9
       ·exact zhc.out b h9
       ·exact .inr (Nat.le_trans zgt.out.size (Nat.le_trans X8.out.size h9))
      ·have h1:=BR.out.K
       have h2:=Y7.out
       omega
      ·rcases D9.out _ hd with h9 | h9
       ·exact zei.out h9
       ·have:=ziM.lt;omega
     case measure=>simp [intOf];omega
  ·obtain rfl:l=v.L:=by omega
   have zal:(s,r)∈v1.P:=by rw [EP.out];exact Rh.out
   have Mt:=aA (vU.out wr lab1 v1 S1.out ES.out zal)
   have HPk:=aA (fun w6 (h2:aD wr w6)=>oX c (Mt.out.ext h2))
   have a6:wr.cell? ⟨v.x,6,none⟩=some (.pointer (some ⟨v1.xw,0,none⟩)):=by rw [← K1.out.x];exact S1.out.str.cell 6
   have zdU:=aA (Qp.out.ent zal)
   go_upto_region 14 with fail
   have a6:=aB a6
   clear zal
   refine aC 6 (by kernel_rfl) (by kernel_rfl) (by kernel_rfl) ?_
   iterate 5
    refine aK (by kernel_rfl) (by kernel_rfl) ?_
    apply Exists.intro
    refine ⟨fun w1 aT=>?_,fun K hK=>?_⟩
    ·go_simp;first | done | rfl
    go_simp;refine hK _ _ ?_;clear hK K
   refine cU [] (fun u w2=>bF w2 (fun b=>wr.heap.size≤b) u (pk r)) (fun u w2 w3 _ h2 h3=>h3.ext h2) rfl (by kernel_rfl) (fun w9 hw9=>?_) ?_
   ·clear a6
    simp only [cN]
    go_simp
    refine ⟨aD.refl _,(HPk.out w9 hw9).mono fun e w' h=>?_⟩
    obtain ⟨K,rfl,h2,h3⟩:=h
    exact ⟨K,rfl,h3,h2.mono fun b hb=>Nat.le_trans hw9.size hb⟩
   refine aH ⟨rfl,by kernel_rfl,fun w3 hw3=>?_⟩
   simp only [bL]
   intro K hKk
   obtain ⟨A1,n1,c1,rfl,oI,jT⟩:=hKk.at_
   simp only [List.drop]
   have S3:=aA (S1.out.ext hw3)
   obtain rfl:=oI.len
   have HDel:=aA (S3.out.del_where (by have:=Y7.out;omega) c1 oI (S1.out.aside (Nat.le_refl _) jT) (by have:=vD r;omega) zdU.out.1 zdU.out.2)
   have E3:=aA hw3
   clear hKk oI jT a6 hw3 HPk
   go_upto_region 15 with ((with_reducible refine HDel.out.mono ?_);rintro e w4 ⟨rfl,E',hE',lab4,s4,d4,c4⟩;have P4:=aA hE';have S4:=aA s4;have D4:=aA d4;have C4:=aA c4;clear hE' s4 d4 c4)
   clear HDel
   have a4:w4.cell? ⟨v.x,4,none⟩=some (.pointer (some ⟨v1.xs,0,none⟩)):=by rw [← K1.out.x];exact S4.out.str.cell 4
   have a5:w4.cell? ⟨v.x,5,none⟩=some (.map (some v1.rm)):=by rw [← K1.out.x];exact S4.out.str.cell 5
   have zds:v1.sl[s]?=some (gn,some (.slice A r.length c)):=by rw [ES.out];exact zfU.out
   have wA:=aA zds
   have qH:∀ w3,aD w4 w3→(Instr.lookup 124 (.map (some v1.rm)) (.int .i64 (s:Int)) false).run Tryz.prog w3=.ok (.agg #[.int .i64 s,.int .i64 gn]) w3:=fun w3 h3=>by
    obtain ⟨-,nn,-,hmap⟩:=(S4.out.ext h3).part 3
    have h9:=vL 124 186 Tryz.underlying124 (z:=.agg #[.int .i64 0,.int .i64 0]) (fun w=>yw w) hmap (k:=s) (by omega)
    have h8:v1.refs s=some (.agg #[.int .i64 s,.int .i64 gn]):=by rw [ER.out];exact zfH.out
    rw [show ({v1 with E:=E',K:=v1.K+1}:bI).refs s=_ from h8] at h9
    exact h9
   clear zds
   have a4:=aB a4;have a5:=aB a5
   refine aC 10 (by kernel_rfl) (by kernel_rfl) (by kernel_rfl) ?_
   iterate 10
    refine aK (by kernel_rfl) (by kernel_rfl) ?_
    apply Exists.intro
    refine ⟨fun w1 aT=>?_,fun K hK=>?_⟩
    ·go_simp;first | done | rfl
    go_simp;refine hK _ _ ?_;clear hK K
   refine aH ⟨rfl,by kernel_rfl,fun w5 hw5=>?_⟩
   simp only [bL,List.drop]
   clear a4 a5 qH
   have S5:=aA (S4.out.ext hw5)
   have HGv:=aA (S5.out.give_row (i:=s) (g:=gn) wA.out (by have:=Zb.out s;rw [zfo.out] at this;omega) (P':=P1 ++ P2) (fun j q hj=>by
    have jM:List.Perm v.P ((s,r) :: (P1 ++ P2)):=by rw [HP.out];exact List.perm_middle
    have jP:=(jM.map (·.1)).nodup_iff.1 Gr.out.row.slots
    simp only [List.map_cons,List.nodup_cons] at jP
    refine ⟨?_,fun e=>jP.1 (by rw [← e];exact List.mem_map.2 ⟨_,hj,rfl⟩)⟩
    show (j,q)∈v1.P
    rw [EP.out]
    exact jM.mem_iff.2 (List.mem_cons_of_mem _ hj)))
   have E5:=aA hw5
   clear hw5
   go_upto_region 16 with ((with_reducible refine HGv.out.mono ?_);rintro e w6 ⟨rfl,lab6,s6,d6,c6⟩;have S6:=aA s6;have D6:=aA d6;have C6:=aA c6;clear s6 d6 c6)
   clear HGv
   have a5:w6.cell? ⟨v.x,5,none⟩=some (.map (some v1.rm)):=by rw [← K1.out.x];exact S6.out.str.cell 5
   obtain ⟨-,nn,m7,hmap⟩:=S6.out.part 3
   have HM:=aA hmap
   have zgP:=aA (show nn≤v1.K+1 from m7)
   clear hmap m7
   go_upto_region 17 with (at_delete;refine p6 rfl (.tmp 115) (.tmp 116) 124 186 rfl Tryz.underlying124 v1.rm nn v1.refs rfl HM.out s rfl (by omega) ?_;intro w7 M7 T7)
   obtain ⟨lab7,s7,d7,c7⟩:=S6.out.put_ref (n:=nn) (by have:=zgP.out;show nn≤v1.K+1+1;omega) M7.out T7.out
   have S7:=aA s7;have D7:=aA d7;have C7:=aA c7
   clear s7 d7 c7 M7 T7 a5 HM
   go_wp2_with fail
   go_ret
   have B3:=xz.out.ext E3.out
   have B4:=C4.out.blk B3 qp.out
   have ziS:¬ lab4.dom bh:=fun hd=>by
    rcases D4.out _ hd with h9 | h9
    ·exact qp.out h9
    ·have:=B3.lt;omega
   have B5:=B4.ext E5.out
   have B6:=C6.out.blk B5 ziS
   have ziE:¬ lab6.dom bh:=fun hd=>by
    rcases D6.out _ hd with h9 | h9
    ·exact ziS h9
    ·have:=B5.lt;omega
   have B7:=C7.out.blk B6 ziE
   have zei:¬ lab7.dom bh:=fun hd=>by
    rcases D7.out _ hd with h9 | h9
    ·exact ziE h9
    ·have:=B6.lt;omega
   have cZ:=ziR.out
   have H4:=bB (eV ⟨D1.out,C1.out⟩ E3.out) ⟨D4.out,C4.out⟩
   have H6:=bB (eV H4 E5.out) ⟨D6.out,C6.out⟩
   have H7:=bB H6 ⟨D7.out,C7.out⟩
   have zex:=(S1.out.part 2).ok.give wA.out
   refine ⟨bh,rfl,{v1 with sl:=v1.sl.set s (gn,none),fr:=v1.fr ++ [s],lv:=v1.lv - 1,refs:=v1.refs.del s,E:=E',P:=P1 ++ P2,K:=v1.K+1+1},⟨?_,rfl,?_,?_,fun i=>?_,fun i=>kk.out i⟩,zbL.out,?_,⟨lab7,S7.out,H7.1,H7.2,zei⟩,Dl,?_,?_,gK.low (fun i=>?_) fun i=>?_⟩
   ·exact ⟨K1.out.x,K1.out.width,K1.out.most,K1.out.gs,K1.out.marked,K1.out.uA,K1.out.uC,K1.out.un,K1.out.U⟩
   ·show fJ v1.most (v1.sl.set s (gn,none)) (v1.fr ++ [s])=s :: fJ v.most v.sl v.fr
    rw [zex.2.1,K1.out.most,ES.out,EF.out]
   ·have:=Y7.out
    show v1.K+1+1≤v.K+20
    omega
   ·show aX (v1.sl.set s (gn,none)) i=aX v.sl i
    exact Ju wA.out ES.out i
   ·have hx:=B7
    rw [Kl.out,cZ] at hx
    have hy:=cB.ofBlk hx (by omega)
    rw [← cZ] at hy
    exact hy
   ·exact Qp.out.unlink (P1:=P1) (P2:=P2) (by rw [EP.out];exact HP.out) wA.out P4.out _ _
   ·exact zc.out.congrQ fun j hj=>if_pos (by rw [← K1.out.L];unfold bI.L;omega)
   ·show aX (v1.sl.set s (gn,none)) i<M
    rw [Ju wA.out ES.out i]
    exact Zb.out i
   ·show aX v1.sL i<M
    rw [kk.out i];exact zh1.out i
end Go.Proofs.YtahdiiaadjdmcaaGreat
namespace Go.Proofs.YtahdiiaadjdmcaaGreat
open Go.RowKit
open Classical in
noncomputable def aP.with_ (lab:aP) (j:Nat) (B:Nat→Prop):aP:=fun b=>if B b then some j else lab b
theorem aP.with_own {lab:aP} {j:Nat} {B:Nat→Prop} {b:Nat} (hb:B b):(lab.with_ j B).own j b:=by unfold aP.own aP.with_;rw [if_pos hb]
theorem aP.with_old {lab:aP} {i j:Nat} {B:Nat→Prop} (hB:∀ b,B b→¬ lab.dom b) {b:Nat} (hb:lab.own i b):(lab.with_ j B).own i b:=by
 unfold aP.own aP.with_
 rw [if_neg fun h=>hB b h ⟨i,hb⟩];exact hb
theorem aP.with_dom {lab:aP} {j:Nat} {B:Nat→Prop} {b:Nat} (h:(lab.with_ j B).dom b):B b∨lab.dom b:=by
 obtain ⟨i,hi⟩:=h
 unfold aP.with_ at hi
 split at hi
 ·exact .inl (by assumption)
 ·exact .inr ⟨i,hi⟩
structure yW (w0 w:World) (x:Nat) (Bg:Nat→Prop) (lab:aP) (v:bI) (K:Nat→Prop):Prop where
 lt:∀ b i,lab b=some i→b<w.heap.size
 part:∀ i,K i→part w (lab.own i) v i
 dom:∀ b,lab.dom b→Bg b∨w0.heap.size≤b
 nx:¬ lab.dom x
 chg:aF (fun b=>b=x) w0 w
section
variable {w0 w w':World} {x:Nat} {Bg:Nat→Prop} {lab:aP} {v v':bI} {K:Nat→Prop}
theorem yW.go (h:yW w0 w x Bg lab v K) {C:Nat→Prop} (hw:aF C w w') (hC:∀ g,C g→g=x∨(w0.heap.size≤g∧¬ lab.dom g)):yW w0 w' x Bg lab v K:=
 ⟨fun b i hb=>Nat.lt_of_lt_of_le (h.lt b i hb) hw.size,fun i hi=>kN hw (fun g hg Mf=>(hC g Mf).elim (fun e=>h.nx ⟨i,by rw [← e];exact hg⟩) fun h9=>h9.2 ⟨i,hg⟩) i (h.part i hi),h.dom,h.nx,h.chg.trans hw fun g hg hl=>(hC g hg).elim id fun h9=>absurd h9.1 (by omega)⟩
theorem yW.ext (h:yW w0 w x Bg lab v K) (hw:aD w w'):yW w0 w' x Bg lab v K:=h.go (C:=fun _=>False) (aF.of hw) fun _ h=>h.elim
theorem yW.set (h:yW w0 w x Bg lab v K) (j:Nat) (u:Value):yW w0 (w.setCell ⟨x,j,none⟩ u) x Bg lab v K:=
 h.go (C:=fun b=>b=x) (aF.setCell (B:=fun b=>b=x) (aF.refl _ w) (p:=⟨x,j,none⟩) (.inl rfl) u) fun _ h=>.inl h
theorem yW.add (h:yW w0 w x Bg lab v K) (j:Nat) {B':Nat→Prop} (hB:∀ b,B' b→w0.heap.size≤b∧b<w.heap.size∧¬ lab.dom b∧b≠x) (hp:Proofs.YtahdiiaadjdmcaaGreat.part w B' v' j) (hs:∀ i,K i→i≠j→Proofs.YtahdiiaadjdmcaaGreat.part w (lab.own i) v i→Proofs.YtahdiiaadjdmcaaGreat.part w (lab.own i) v' i) :
 yW w0 w x Bg (lab.with_ j B') v' (fun i=>i=j∨K i):=by
 have bC:∀ b i,lab.with_ j B' b=some i→b<w.heap.size:=fun b i hb=>(aP.with_dom ⟨i,hb⟩).elim (fun h1=>(hB b h1).2.1) fun ⟨k,hk⟩=>h.lt b k hk
 refine ⟨bC,fun i hi=>?_,fun b hb=>(aP.with_dom hb).elim (fun h1=>.inr (hB b h1).1) (h.dom b),fun hx=>(aP.with_dom hx).elim (fun h1=>(hB x h1).2.2.2 rfl) h.nx,h.chg⟩
 by_cases zcm:i=j
 ·subst zcm
  exact kE (fun b hb=>aP.with_own hb) (fun b hb=>bC b _ hb) i hp
 ·exact kE (fun b hb=>aP.with_old (fun b hb=>(hB b hb).2.2.1) hb) (fun b hb=>bC b _ hb) i (hs i (hi.resolve_left zcm) zcm (h.part i (hi.resolve_left zcm)))
theorem yW.new {w1 w2:World} (h:yW w0 w1 x Bg lab v K) (Gh:x<w0.heap.size) (hw:aD w1 w2) (k:Nat) (u:Value) (j:Nat) {B':Nat→Prop} (hB:∀ b,B' b→w1.heap.size≤b∧b<w2.heap.size) (hp:aF (fun b=>b=x) w2 (w2.setCell ⟨x,k,none⟩ u)→(∀ b,B' b→¬ b=x)→Proofs.YtahdiiaadjdmcaaGreat.part (w2.setCell ⟨x,k,none⟩ u) B' v' j) (hs:∀ i,K i→i≠j→Proofs.YtahdiiaadjdmcaaGreat.part (w2.setCell ⟨x,k,none⟩ u) (lab.own i) v i→Proofs.YtahdiiaadjdmcaaGreat.part (w2.setCell ⟨x,k,none⟩ u) (lab.own i) v' i) :
 yW w0 (w2.setCell ⟨x,k,none⟩ u) x Bg (lab.with_ j B') v' (fun i=>i=j∨K i):=by
 have oZ:=h.chg.size
 refine ((h.ext hw).set k u).add j (fun b hb=>⟨by have:=(hB b hb).1;omega,by have:=(hB b hb).2;simpa using this,fun ⟨i,hi⟩=>?_,fun e=>?_⟩) (hp (aF.setCell (B:=fun b=>b=x) (aF.refl _ w2) (p:=⟨x,k,none⟩) (.inl rfl) u) fun b hb e=>?_) hs
 ·have h1:=h.lt b i hi;have h2:=(hB b hb).1;omega
 ·have h2:=(hB b hb).1;omega
 ·have h2:=(hB b hb).1;omega
theorem yW.mono (h:yW w0 w x Bg lab v K) {K':Nat→Prop} (hK:∀ i,K' i→K i):yW w0 w x Bg lab v K':=⟨h.lt,fun i hi=>h.part i (hK i hi),h.dom,h.nx,h.chg⟩
end
def r6 (width most L:Nat) (GA:Option Addr) (n cG:Nat) (c4 c5 c6 c7 c8 c9 c10:Value):Array Value:=#[.int .i64 width,.int .i64 most,.int .i64 L,.slice GA n cG,c4,c5,c6,c7,c8,c9,c10,.bool false,.slice none 0 0]
def pH (x width most:Nat) (gs:List (List Nat)) (GA:Option Addr) (cG xs rm xw:Nat) (gA:Option Addr) (gC:Nat) (gx:List Nat) (xl lm xo:Nat):bI:=
 {x:=x,width:=width,most:=most,gs:=gs,GA:=GA,cG:=cG,xs:=xs,sl:=[],fr:=[],lv:=0,rm:=rm,refs:=fun _=>none,xw:=xw,E:=[],gA:=gA,gC:=gC,gx:=gx,G:=fun _=>[],xl:=xl,sL:=[],fL:=[],lL:=0,lm:=lm,lrefs:=fun _=>none,xo:=xo,cont:=fun _=>[],marked:=false,uA:=none,uC:=0,un:=[],P:=[],U:=[],K:=0}
theorem j6 {w:World} {B:Nat→Prop} {x width most:Nat} {gs:List (List Nat)} {GA gA gA':Option Addr} {cG xs rm xw gC xl lm xo xs' rm' xw' gC' xl' lm' xo':Nat} {gx gx':List Nat} :
 ∀ i,i≠0→(i=2→xs=xs')→(i=3→rm=rm')→(i=4→xw=xw')→(i=5→xl=xl')→(i=6→lm=lm')→(i=7→xo=xo')→(i=9→gx=gx')→(∀ k,i=k+10→gx[k]?=gx'[k]?)→part w B (pH x width most gs GA cG xs rm xw gA gC gx xl lm xo) i→part w B (pH x width most gs GA cG xs' rm' xw' gA' gC' gx' xl' lm' xo') i
 | 0,h,_,_,_,_,_,_,_,_,_=>absurd rfl h
 | 1,_,_,_,_,_,_,_,_,_,h=>h
 | 2,_,e,_,_,_,_,_,_,_,h=>by obtain rfl:=e rfl;exact h
 | 3,_,_,e,_,_,_,_,_,_,h=>by obtain rfl:=e rfl;exact h
 | 4,_,_,_,e,_,_,_,_,_,h=>by obtain rfl:=e rfl;exact h
 | 5,_,_,_,_,e,_,_,_,_,h=>by obtain rfl:=e rfl;exact h
 | 6,_,_,_,_,_,e,_,_,_,h=>by obtain rfl:=e rfl;exact h
 | 7,_,_,_,_,_,_,e,_,_,h=>by obtain rfl:=e rfl;exact h
 | 8,_,_,_,_,_,_,_,_,_,h=>h
 | 9,_,_,_,_,_,_,_,e,_,h=>by obtain rfl:=e rfl;exact h
 | k+10,_,_,_,_,_,_,_,_,e,h=>fun xk hk=>h xk ((e k rfl).trans hk)
def Wc (w0 w:World) (x:Nat) (Bg:Nat→Prop) (width most:Nat) (gs:List (List Nat)) (GA:Option Addr) (gl cG xs rm xw:Nat) (c8 c9 c10:Value) (K:Nat→Prop) (k:Nat):Prop:=
 ∃ lab gA gC gx,gx.length=k∧yW w0 w x Bg lab (pH x width most gs GA cG xs rm xw gA gC gx 0 0 0) K∧aL w x 131 (r6 width most (gl+1) GA gl cG (.pointer (some ⟨xs,0,none⟩)) (.map (some rm)) (.pointer (some ⟨xw,0,none⟩)) (.slice gA k gC) c8 c9 c10)∧
  aJ w (fun b=>w0.heap.size≤b∧b<w.heap.size∧¬ lab.dom b∧b≠x) 125 1 k (.slice gA k gC) (lF gx)
theorem LayO.up {w0 w w1 wx:World} {x:Nat} {lab:aP} {k:Nat} {v:Value} {xs:List Value} (O:aJ wx (fun b=>w0.heap.size≤b∧b<w.heap.size∧¬ lab.dom b∧b≠x) 125 1 k v xs) (h:w.heap.size≤w1.heap.size):aJ wx (fun b=>w0.heap.size≤b∧b<w1.heap.size∧¬ lab.dom b∧b≠x) 125 1 k v xs:=
 O.mono fun _ hg=>⟨hg.1,Nat.lt_of_lt_of_le hg.2.1 h,hg.2.2.1,hg.2.2.2⟩
theorem LayO.new {w0 w w1:World} {x:Nat} {lab:aP} {k:Nat} {v:Value} {xs:List Value} {cs:Array Value} (O:aJ w1 (fun b=>w0.heap.size≤b∧b<w.heap.size∧¬ lab.dom b∧b≠x) 125 1 k v xs) (X:aL w1 x 131 cs) {j:Nat} {B':Nat→Prop} (c:Nat) (u:Value) (hB:∀ b,B' b→w.heap.size≤b) :
 aJ (w1.setCell ⟨x,c,none⟩ u) (fun b=>w0.heap.size≤b∧b<(w1.setCell ⟨x,c,none⟩ u).heap.size∧¬ (lab.with_ j B').dom b∧b≠x) 125 1 k v xs:=by
 have h:=O.far X (by decide) c u
 refine ⟨h.own,fun g hg=>?_⟩
 have h1:=O.inB g hg
 exact ⟨h1.1,h.lt g hg,fun hd=>(aP.with_dom hd).elim (fun h2=>by have:=hB g h2;have:=h1.2.1;omega) h1.2.2.1,h1.2.2.2⟩
theorem Wc.push {w0 wr w1 w8:World} {x:Nat} {Bg:Nat→Prop} {width most:Nat} {gs:List (List Nat)} {GA:Option Addr} {gl cG xs rm xw:Nat} {c8 c9 c10:Value} {lab:aP} {gA:Option Addr} {gC k xk:Nat} {gx:List Nat} (Gh:x<w0.heap.size) (rV:gx.length=k)
 (M:yW w0 wr x Bg lab (pH x width most gs GA cG xs rm xw gA gC gx 0 0 0) (fun i=>i=4∨i=3∨i=2∨i=1∨i=8∨10≤i))
 (X:aL wr x 131 (r6 width most (gl+1) GA gl cG (.pointer (some ⟨xs,0,none⟩)) (.map (some rm)) (.pointer (some ⟨xw,0,none⟩)) (.slice gA k gC) c8 c9 c10))
 (O:aJ wr (fun b=>w0.heap.size≤b∧b<wr.heap.size∧¬ lab.dom b∧b≠x) 125 1 k (.slice gA k gC) (lF gx))
 (R:E9 w1 (fun b=>wr.heap.size≤b∧b<w1.heap.size) xk most 0 []) (hE:aD wr w1) {o:Obj} {A8:Option Addr} {g8:Nat}
 (own8:aJ w8 (fun b=>(w0.heap.size≤b∧b<wr.heap.size∧¬ lab.dom b∧b≠x)∨b=(w1.alloc o).heap.size) 125 1 (k+1) (.slice A8 (k+1) g8) (lF gx ++ [.pointer (some ⟨xk,0,none⟩)])) (G8:(w1.alloc o).grownBy w8 (Value.slice gA k gC).ownBlock) (C8:aF (fun b=>w0.heap.size≤b∧b<wr.heap.size∧¬ lab.dom b∧b≠x) (w1.alloc o) w8) :
 Wc w0 (w8.setCell ⟨x,7,none⟩ (.slice A8 (k+1) g8)) x Bg width most gs GA gl cG xs rm xw c8 c9 c10 (fun i=>i=4∨i=3∨i=2∨i=1∨i=8∨10≤i) (k+1):=by
 have Ce:=M.chg.size
 have he:=hE.size
 have ho:(w1.alloc o).heap.size=w1.heap.size+1:=World.size_alloc w1 o
 have h8:=C8.size
 have X1:=(X.ext hE).ext (aD.alloc w1 o)
 have fQ:=X1.grown G8 (aN (((O.ext hE).ext (aD.alloc w1 o)).own) X1 (by decide))
 have M8:=(((M.ext hE).ext (aD.alloc w1 o)).go C8 (fun g hg=>.inr ⟨hg.1,hg.2.2.1⟩)).set 7 (.slice A8 (k+1) g8)
 have c9':aF (fun b=>b=x) w8 (w8.setCell ⟨x,7,none⟩ (.slice A8 (k+1) g8)):=aF.setCell (B:=fun b=>b=x) (aF.refl _ w8) (p:=⟨x,7,none⟩) (.inl rfl) _
 have R9:=((R.far (C:=fun _=>False) (aF.of (aD.alloc w1 o)) (fun _ _ h=>h)).far C8 (fun g hg Mf=>by have:=hg.1;have:=Mf.2.1;omega)).far c9' (fun g hg e=>by have:=hg.1;omega)
 have Wk:∀ b,lab.dom b→b<wr.heap.size:=fun b ⟨i,hi⟩=>M.lt b i hi
 have hM:=M8.add (v':=pH x width most gs GA cG xs rm xw A8 g8 (gx ++ [xk]) 0 0 0) (k+10) (B':=fun b=>wr.heap.size≤b∧b<w1.heap.size)
  (fun b hb=>⟨by have:=hb.1;omega,by have:=hb.2;simp;omega,fun hd=>by have:=Wk b hd;have:=hb.1;omega,fun e=>by have:=hb.1;omega⟩)
  (fun xk' hk'=>by
   have h1:(gx ++ [xk])[k]?=some xk':=hk'
   rw [List.getElem?_append_right (by omega),rV,Nat.sub_self] at h1
   obtain rfl:xk=xk':=by simpa using h1
   exact ⟨0,Nat.le_refl _,R9⟩)
  (fun i hi aZ h=>j6 i (by omega) (fun _=>rfl) (fun _=>rfl) (fun _=>rfl) (fun _=>rfl) (fun _=>rfl) (fun _=>rfl) (fun e=>by omega) (fun k' e=>by
   rcases Nat.lt_trichotomy k' k with h1 | h1 | h1
   ·rw [List.getElem?_append_left (by omega)]
   ·omega
   ·rw [List.getElem?_eq_none (by omega),List.getElem?_eq_none (by simp;omega)]) h)
 refine ⟨_,A8,g8,gx ++ [xk],by simp [rV],hM.mono fun i hi=>.inr hi,fQ.set_ 7 _,?_⟩
 have h9:=own8.far fQ (by decide) 7 (.slice A8 (k+1) g8)
 have e:lF (gx ++ [xk])=lF gx ++ [.pointer (some ⟨xk,0,none⟩)]:=by simp [lF]
 rw [e]
 refine ⟨h9.own,fun g hg=>?_⟩
 have bC:=h9.lt g hg
 rcases own8.inB g hg with h1 | h1
 ·exact ⟨h1.1,bC,fun hd=>(aP.with_dom hd).elim (fun h2=>by have:=h2.1;have:=h1.2.1;omega) h1.2.2.1,h1.2.2.2⟩
 ·exact ⟨by omega,bC,fun hd=>(aP.with_dom hd).elim (fun h2=>by have:=h2.2;omega) fun h2=>by have:=Wk g h2;omega,by omega⟩
structure xX (v:bI) (x0 width0 most0:Nat) (gs0:List (List Nat)):Prop where
 x:v.x=x0
 width:v.width=width0
 most:v.most=most0
 gs:v.gs=gs0
 sl:v.sl=[]
 fr:v.fr=[]
 lv:v.lv=0
 refs:v.refs=fun _=>none
 E:v.E=[]
 gx:v.gx.length=gs0.length
 G:v.G=fun _=>[]
 sL:v.sL=[]
 fL:v.fL=[]
 lL:v.lL=0
 lrefs:v.lrefs=fun _=>none
 cont:v.cont=fun _=>[]
 marked:v.marked=false
 uA:v.uA=none
 uC:v.uC=0
 un:v.un=[]
 P:v.P=[]
 U:v.U=[]
 K:v.K=0
theorem yW.done {w0 w:World} {x width most:Nat} {Bg:Nat→Prop} {lab:aP} {gs:List (List Nat)} {GA gA:Option Addr} {cG xs rm xw gC xl lm xo k:Nat} {gx:List Nat} {K:Nat→Prop}
 (h:yW w0 w x Bg lab (pH x width most gs GA cG xs rm xw gA gC gx xl lm xo) (fun i=>i=7∨i=6∨i=5∨K i)) (X:aL w x 131 (r6 width most (k+1) GA k cG (.pointer (some ⟨xs,0,none⟩)) (.map (some rm)) (.pointer (some ⟨xw,0,none⟩)) (.slice gA k gC) (.pointer (some ⟨xl,0,none⟩)) (.map (some lm)) (.pointer (some ⟨xo,0,none⟩))))
 (O:aJ w (fun b=>w0.heap.size≤b∧b<w.heap.size∧¬ lab.dom b∧b≠x) 125 1 k (.slice gA k gC) (lF gx)) (rV:gx.length=k) (O0:gs.length=k) (hK:∀ i,i=4∨i=3∨i=2∨i=1∨i=8∨10≤i→K i) :
 ∃ lab v,cW w lab v∧xX v x width most gs∧(∀ b,lab.dom b→b=x∨Bg b∨w0.heap.size≤b)∧aF (fun b=>b=x) w0 w:=by
 subst rV
 have bC:∀ b i,lab.with_ 0 (fun b=>b=x∨(Value.slice gA gx.length gC).ownBlock=some b) b=some i→b<w.heap.size:=fun b i hb=>(aP.with_dom ⟨i,hb⟩).elim (fun h1=>h1.elim (fun e=>by rw [e];exact X.lt) fun e=>O.lt b e) fun ⟨j,hj⟩=>h.lt b j hj
 have jP:∀ b,(b=x∨(Value.slice gA gx.length gC).ownBlock=some b)→¬ lab.dom b:=fun b hb=>hb.elim (fun e=>by rw [e];exact h.nx) fun e=>(O.inB b e).2.2.1
 refine ⟨lab.with_ 0 (fun b=>b=x∨(Value.slice gA gx.length gC).ownBlock=some b),pH x width most gs GA cG xs rm xw gA gC gx xl lm xo,⟨bC,fun i=>?_⟩,⟨rfl,rfl,rfl,rfl,rfl,rfl,rfl,rfl,rfl,O0.symm,rfl,rfl,rfl,rfl,rfl,rfl,rfl,rfl,rfl,rfl,rfl,rfl,rfl⟩,fun b hb=>?_,h.chg⟩
 ·have hold:∀ i,(i=7∨i=6∨i=5∨K i)→Proofs.YtahdiiaadjdmcaaGreat.part w ((lab.with_ 0 (fun b=>b=x∨(Value.slice gA gx.length gC).ownBlock=some b)).own i) (pH x width most gs GA cG xs rm xw gA gC gx xl lm xo) i:=fun i hi=>
   kE (fun b hb=>aP.with_old jP hb) (fun b hb=>bC b _ hb) i (h.part i hi)
  match i with
  |0=>
   refine ⟨?_,aP.with_own (.inl rfl),⟨O.own,fun g hg=>aP.with_own (.inr hg)⟩,aJ.nil _ _ _ _⟩
   have e:(pH x width most gs GA cG xs rm xw gA gC gx xl lm xo).cells=r6 width most (gx.length+1) GA gx.length cG (.pointer (some ⟨xs,0,none⟩)) (.map (some rm)) (.pointer (some ⟨xw,0,none⟩)) (.slice gA gx.length gC) (.pointer (some ⟨xl,0,none⟩)) (.map (some lm)) (.pointer (some ⟨xo,0,none⟩)):=by
    simp only [bI.cells,pH,r6,bI.L,O0,List.length_nil]
   rw [e];exact X
  | 1=>exact hold 1 (.inr (.inr (.inr (hK 1 (by omega)))))
  | 2=>exact hold 2 (.inr (.inr (.inr (hK 2 (by omega)))))
  | 3=>exact hold 3 (.inr (.inr (.inr (hK 3 (by omega)))))
  | 4=>exact hold 4 (.inr (.inr (.inr (hK 4 (by omega)))))
  | 5=>exact hold 5 (by omega)
  | 6=>exact hold 6 (by omega)
  | 7=>exact hold 7 (by omega)
  | 8=>exact hold 8 (.inr (.inr (.inr (hK 8 (by omega)))))
  | 9=>exact O0.symm
  | m+10=>exact hold (m+10) (.inr (.inr (.inr (hK (m+10) (by omega)))))
 ·rcases aP.with_dom hb with (h1 | h1) | h1
  ·exact .inl h1
  ·exact .inr (.inr (O.inB b h1).1)
  ·exact .inr (h.dom b h1)
theorem xX.at_ {v:bI} {x width most:Nat} {gs:List (List Nat)} (h:xX v x width most gs) (hw:width≤30) (hm:1≤most∧most≤65536) (hg:gs.length≤4) (O0:∀ g∈gs,g.length≤30∧∀ c∈g,c<width):oD v (fun _=>[]) 1:=by
 refine ⟨⟨by rw [h.width];exact hw,by rw [h.most];exact hm,by rw [h.gs];exact hg,by rw [h.gs,h.width];exact O0,?_,?_,?_,fun i=>?_,by rw [h.lv,h.P];rfl,?_,by rw [h.E,h.P];exact .nil,by rw [h.gx,h.gs]⟩,⟨?_,fun k g hg=>?_,?_,?_,?_,?_⟩,⟨fun i=>?_,fun i=>?_⟩⟩
 ·rw [h.P];intro p hp;cases hp
 ·rw [h.P];exact List.nodup_nil
 ·rw [h.P];exact List.nodup_nil
 ·rw [h.sl,h.P];simp [oV]
 ·rw [h.P];intro p hp;cases hp
 ·rw [h.cont,h.P];rfl
 ·rw [h.G,h.P,h.cont]
  exact ⟨.nil,List.nodup_nil,fun key=>⟨fun h1=>(by cases h1),fun ⟨p,hp,_⟩=>(by cases hp)⟩,fun d hd=>(by cases hd)⟩
 ·intro k j d e _ _ hd;cases hd
 ·intro k d _ hd;cases hd
 ·intro n _ _;rw [h.cont]
 ·rw [h.lL]
  have:∀ n:Nat,((List.range n).map fun _=>([] : List (List V × Nat)).length).sum=0:=fun n=>by
   induction n with
   | zero=>rfl
   | succ n ih=>rw [List.range_succ,List.map_append,List.sum_append,ih];rfl
  exact (this _).symm
 ·rw [h.sl];simp [oV,aX]
 ·rw [h.sL];simp [oV,aX]
end Go.Proofs.YtahdiiaadjdmcaaGreat
