import Derived.Test.YtahdiiaadjdmcaaGreatStoQ
import Derived.Laws.EntriesVeiled
namespace Go.Proofs.YtahdiiaadjdmcaaGreat
open Go.RowKit
set_option maxRecDepth 100000 in
theorem Wh {w:World} {lab:aP} {v:bI} (h:cW w lab v) (hr:dB v):Calls Tryz.prog 38 #[.pointer (some ⟨v.x,0,none⟩)] w fun e w'=>e=.returned (.int .i64 v.P.length)∧aD w w':=by
 have HL:=aA (Oh (h.part 2))
 have a4:w.cell? ⟨v.x,4,none⟩=some (.pointer (some ⟨v.xs,0,none⟩)):=h.str.cell 4
 rw [← hr.lv]
 clear h hr
 go_enter Tryz.func38,Tryz.ntmps38
 go_wp2_with ((with_reducible refine HL.out.mono ?_);rintro e w1 ⟨rfl,rfl⟩)
 go_ret
 exact ⟨rfl,aD.refl _⟩
def inB (rows:List (List V)) (r:List V):Bool:=rows.any fun q=>bP q r
theorem bK {rows:List (List V)} {r:List V}:inB rows r=true ↔ r∈rows:=by
 unfold inB
 rw [List.any_eq_true]
 exact ⟨fun ⟨q,h1,h2⟩=>cP.1 h2 ▸ h1,fun h=>⟨r,h,cP.2 rfl⟩⟩
theorem bD.stays {w w':World} {B:Nat→Prop} {A:Option Addr} {n:Nat} {r:List V} (h:bD w A n r) (hA:dR B A) (hw:aF B w w'):bD w' A n r:=h.chg (fun a ha=>hA a ha) hw
def zD (v:bI) (r:List V) (o:Option Int):Prop:=(∀ z,o=some z→∃ s:Nat,z=s∧(s,r)∈v.P)∧(o=none→r∉v.P.map (·.2))
theorem Gw {w:World} {lab:aP} {v:bI} {D:Nat→List (List V × Nat)} {N:Nat} {P0:List aS} {F0:List Nat} (h:cW w lab v) (ho:jS v D N P0 F0) (hN:N≤8796093022208) {r:List V} {A:Option Addr} {n:Nat} (c:Nat) (ha:bD w A n r) :
 Calls Tryz.prog 68 #[.pointer (some ⟨v.x,0,none⟩),.slice A n c] w fun e w'=>∃ o:Option Int,zD v r o∧e=.returned (.int .i64 (o.getD (-1)))∧fK w lab w' (v.tick 1):=by
 have hK:=ho.K
 have hk:=mD hN
 refine (Ax h (by omega) c ha (by have:=vD r;omega)).mono ?_
 rintro e w' ⟨o,h1,h2,h3⟩
 exact ⟨o,h1.spec ho.row ha.wf,h2,h3⟩
def zaS (S:aY) (r:List V):Option Int→Prop
 | none=>inB S.rows r=false
 | some z=>inB S.rows r=true∧∃ s:Nat,z=s
theorem Bl {S:aY} {v:bI} {r:List V} {o:Option Int} (hr:S.rows=v.P.map (·.2)) (h:zD v r o):zaS S r o:=by
 cases o with
 |none=>
  have h1:=h.2 rfl
  rw [← hr] at h1
  show inB S.rows r=false
  cases hb:inB S.rows r with
  | false=>rfl
  | true=>exact absurd (bK.1 hb) h1
 |some z=>
  obtain ⟨s,e,hm⟩:=h.1 z rfl
  exact ⟨bK.2 (by rw [hr];exact List.mem_map.2 ⟨_,hm,rfl⟩),s,e⟩
set_option maxRecDepth 100000 in
theorem Mo {w:World} {B:Nat→Prop} {x:Nat} {S:aY} {N:Nat} (h:kK w B x S N) (hN:N≤8796093022208) {r:List V} {A:Option Addr} {n:Nat} (c:Nat) (ha:bD w A n r) :
 Calls Tryz.prog 39 #[.pointer (some ⟨x,0,none⟩),.slice A n c] w fun e w'=>e=.returned (.bool (inB S.rows r))∧pA w B x S (N+1) w':=by
 obtain ⟨lab,v,D,P0,F0,h1,h2,h3,h4⟩:=h
 have HS:=aA (Gw h1 h4 hN c ha)
 rw [h3.x] at HS
 have H2:=aA h2;have H3:=aA h3;have H4:=aA h4
 clear h1 h2 h3 h4 ha
 go_enter Tryz.func39,Tryz.ntmps39
 go_wp2_with ((with_reducible refine HS.out.mono ?_);rintro e w2 ⟨o,h12,rfl,h3⟩;have O1:=aA (Bl H3.out.rows h12);have S2:=aA h3;clear h12 h3)
 cases o with
 |none=>
  go_ret
  refine ⟨?_,pA.of H2.out S2.out (H3.out.tick 1) (H4.out.tick 1 1 (by omega) (Nat.le_refl _))⟩
  rw [show inB S.rows r=false from O1.out];rfl
 |some z=>
  obtain ⟨hz,s,rfl⟩:=O1.out
  go_ret
  refine ⟨?_,pA.of H2.out S2.out (H3.out.tick 1) (H4.out.tick 1 1 (by omega) (Nat.le_refl _))⟩
  rw [hz]
  simp
theorem Sl.lt' {w:World} {A:Option Addr} {n size:Nat} {xs:List Value} (h:Sl w A n size xs) (hs:0<size):0<n→∀ a,A=some a→a.block<w.heap.size:=fun hn a ha=>by
 obtain ⟨b,off,e,hc⟩:=h.2 hn
 rw [e] at ha
 injection ha with ha
 subst ha
 have hl:0<xs.length:=by rw [h.1];exact Nat.mul_pos hn hs
 exact World.block_lt_of_cell? w _ (hc 0 xs[0] (List.getElem?_eq_getElem hl))
theorem bD.chgS {w w1 w':World} {C:Nat→Prop} {A:Option Addr} {n:Nat} {r:List V} (h:bD w1 A n r) (hl:0<n→∀ a,A=some a→a.block<w.heap.size) (hA:∀ a,A=some a→a.block<w.heap.size→¬ C a.block) (hw:aF C w1 w'):bD w' A n r:=by
 rcases Nat.eq_zero_or_pos n with rfl | hn
 ·refine ⟨⟨h.at_.1,?_⟩,h.len,h.small,h.wf⟩
  exact ⟨h.at_.2.1,fun h0=>absurd h0 (by omega)⟩
 ·exact h.chg (fun a ha=>hA a ha (hl hn a ha)) hw
theorem jq:(Tryz.prog.info? 1).map (fun i=>(i.zero,i.size,i.bytes))=some (some .nilFunc,1,8):=by kernel_rfl
def fP (S:aY) (r:List V):aY × Bool × Int:=
 if aV S.width r then if inB S.rows r then (S,false,0) else if S.rows.length<S.most then ({S with rows:=S.rows ++ [r]},true,0) else (S,false,31) else (S,false,62)
theorem gK.mono {sl sL:List (fZ Value)} {N M:Nat} (h:gK sl sL N) (hN:N≤M):gK sl sL M:=⟨fun i=>Nat.le_trans (h.s i) hN,fun i=>Nat.le_trans (h.L i) hN⟩
theorem zev {n N:Nat} (h:n≤N) (hN:N≤8796093022208):n+1≤maxLen∧(n+1)*8≤140737488355328:=by unfold maxLen;omega
theorem jS.put {v v':bI} {D D':Nat→List (List V × Nat)} {N Y s:Nat} {P0:List aS} {F0:List Nat} {r:List V} (h:jS v D N P0 F0) (hl:wU (v.tick 1) v' s (v.P ++ [(s,r)])) (ha:oD v' D' Y) (hy:Y+Ey v.U≤gN N) (hm:v.marked=false):jS v' D' (N+1) v'.P (fJ v'.most v'.sl v'.fr):=by
 have hU:v'.U=v.U:=hl.kept.U
 have h0:=h.idle hm
 have hK:=hl.K
 have pI:=h.K
 have hk:=j3 N (Nat.le_refl 1)
 have hg:=kJ (Nat.le_add_right N 1)
 have hr:=zH v.U
 rw [show (v.tick 1).K=v.K+1 from rfl] at hK
 refine ⟨ha.row,ha.lan,ha.gen.mono (by rw [hU];omega),by rw [hU];have:=h.pu;omega,by rw [hU];omega,by rw [hU,h0.1];exact Nat.zero_le _,by rw [hU,h0.1];exact .nil,fun _=>⟨hU.trans h0.1,hl.kept.un.trans h0.2.1,hl.kept.uA.trans h0.2.2.1,hl.kept.uC.trans h0.2.2.2⟩⟩
theorem zE.put {S:aY} {x:Nat} {v v':bI} {P0:List aS} {s:Nat} {r:List V} (h:zE S x v P0) (hl:wU (v.tick 1) v' s (v.P ++ [(s,r)])) (hm:v.marked=false):zE {S with rows:=S.rows ++ [r]} x v' v'.P:=by
 refine ⟨hl.kept.x.trans h.x,h.width.trans hl.kept.width.symm,h.most.trans hl.kept.most.symm,h.gs.trans hl.kept.gs.symm,?_,hl.kept.marked.trans h.mark,fun o ho=>?_⟩
 ·show S.rows ++ [r]=v'.P.map (·.2)
  rw [hl.P,List.map_append,h.rows];rfl
 ·have h1:=h.mark
  rw [hm] at h1
  have ho':S.old=some o:=ho
  rw [ho'] at h1
  cases h1
theorem jS.putM {v v':bI} {D D':Nat→List (List V × Nat)} {N Y s:Nat} {P0:List aS} {F0:List Nat} {r:List V} (h:jS v D N P0 F0) (hl:wU (v.tick 1) v' s (v.P ++ [(s,r)])) (ha:oD v' D' Y) (hy:Y+Ey v.U≤gN N) (hm:v.marked=true) {A8:Option Addr} {c8:Nat} {u:Value} {A:Option Addr} {n c:Nat} :
 jS {v' with uA:=A8,uC:=c8,un:=v'.un ++ [u],U:=v'.U ++ [.put r A n c]} D' (N+1) P0 F0:=by
 have hU:v'.U=v.U:=hl.kept.U
 have hK:=hl.K
 have pI:=h.K
 have hk:=j3 N (Nat.le_refl 1)
 have hg:=kJ (Nat.le_add_right N 1)
 have yj:eH (v'.U ++ [.put r A n c])=Ey v.U:=by rw [hU,Jb _ rfl]
 rw [show (v.tick 1).K=v.K+1 from rfl] at hK
 have hr:=ha.row
 refine ⟨⟨hr.width,hr.most,hr.gsl,hr.gs,hr.rows,hr.slots,hr.vals,hr.alive,hr.lv,hr.refs,hr.ents,hr.gx⟩,ha.lan,ha.gen.mono ?_,?_,?_,?_,?_,fun hf=>?_⟩
 ·show Y≤gN (N+1) - eH (v'.U ++ [.put r A n c])
  rw [yj];omega
 ·show eH (v'.U ++ [.put r A n c])≤gN (N+1)
  rw [yj];omega
 ·show v'.K+64*(v'.U ++ [mY.put r A n c]).length≤kF (N+1)
  rw [List.length_append,List.length_singleton,hU];omega
 ·show (v'.U ++ [mY.put r A n c]).length≤N+1
  rw [List.length_append,List.length_singleton,hU]
  have:=h.ul;omega
 ·show qE (nU v'.width v'.most) v'.gs P0 F0 (v'.U ++ [.put r A n c]) v'.P (fJ v'.most v'.sl v'.fr)
  rw [hl.P,hU,show v'.gs=v.gs from hl.kept.gs,show v'.width=v.width from hl.kept.width,show nU v.width v'.most=nU v.width v.most by rw [show v'.most=v.most from hl.kept.most]]
  refine .put ?_
  have h1:=hl.fs
  have h2:=h.hist
  rw [show fJ (v.tick 1).most (v.tick 1).sl (v.tick 1).fr=fJ v.most v.sl v.fr from rfl] at h1
  rw [h1] at h2
  exact h2
 ·have h1:v'.marked=false:=hf
  rw [show v'.marked=v.marked from hl.kept.marked,hm] at h1
  cases h1
theorem zE.putM {S:aY} {x:Nat} {v v':bI} {P0:List aS} {s:Nat} {r:List V} (h:zE S x v P0) (hl:wU (v.tick 1) v' s (v.P ++ [(s,r)])) {A8:Option Addr} {c8:Nat} {un:List Value} {U:List mY} :
 zE {S with rows:=S.rows ++ [r]} x {v' with uA:=A8,uC:=c8,un:=un,U:=U} P0:=by
 refine ⟨hl.kept.x.trans h.x,h.width.trans hl.kept.width.symm,h.most.trans hl.kept.most.symm,h.gs.trans hl.kept.gs.symm,?_,hl.kept.marked.trans h.mark,fun o ho=>h.old o ho⟩
 show S.rows ++ [r]=v'.P.map (·.2)
 rw [hl.P,List.map_append,h.rows];rfl
set_option maxRecDepth 100000 in
set_option maxHeartbeats 2000000 in
theorem χ {w:World} {B:Nat→Prop} {x:Nat} {S:aY} {N:Nat} (h:Rc w B x S N) (hN:N+1≤8796093022208) {r:List V} {A:Option Addr} {n:Nat} (c:Nat) (ha:bD w A n r) (hB:dR B A) :
 Calls Tryz.prog 135 #[.pointer (some ⟨x,0,none⟩),.slice A n c] w fun e w'=>e=.returned (.tuple #[.bool (fP S r).2.1,.int .i64 (fP S r).2.2])∧Eb w B x (fP S r).1 (N+1) w':=by
 obtain ⟨lab,v,D,P0,F0,Y,h1,h2,h3,h4,hy⟩:=h
 have HY:=aA hy
 have zej:=aA (show gK (v.tick 1).sl (v.tick 1).sL Y∧Y+Ey (v.tick 1).U≤gN (N+1) from ⟨hy.1,Nat.le_trans hy.2 (kJ (Nat.le_add_right N 1))⟩)
 clear hy
 have fM:=aD.alloc w (.cells #[.pointer (some ⟨x,0,none⟩)] 88)
 have HM:=aA (h1.ext fM)
 have HA:=aA (ha.ext fM)
 have HF:=aA (zZ (h1.ext fM) c (ha.ext fM))
 have HS:=aA (fun (w2:World) (h2:aD (w.alloc (.cells #[.pointer (some ⟨x,0,none⟩)] 88)) w2)=>Gw ((h1.ext fM).ext h2) h4 (by omega) c ((ha.ext fM).ext h2))
 have SB:=aA (aL.new w 88 #[.pointer (some ⟨x,0,none⟩)])
 have Mi:=aA fM
 have HH:=aA h1;have H2:=aA h2;have H3:=aA h3;have H4:=aA h4;have lY:=aA hB;have Xt:=aA ha
 have zhL:aV v.width r=aV S.width r:=by rw [h3.width]
 rw [zhL] at HF
 rw [h3.x] at HF HS
 clear h1 h2 h3 h4 hB ha fM zhL
 go_enter Tryz.func135,Tryz.ntmps135
 go_upto_region 1 with fail
 generalize w.alloc (.cells #[.pointer (some ⟨x,0,none⟩)] 88)=w1 at *
 obtain ⟨sb,Vl⟩ : ∃ sb,w.heap.size=sb:=⟨_,rfl⟩
 rw [Vl] at SB ⊢
 have Ww:=aA Vl
 clear Vl
 have s0:w1.cell? ⟨sb,0,none⟩=some (.pointer (some ⟨x,0,none⟩)):=SB.out.cell 0
 cases hf:aV S.width r with
 |false=>
  rw [hf] at HF
  have bR:fP S r=(S,false,62):=by unfold fP;rw [hf];rfl
  have HP:=aA bR
  clear hf bR
  go_wp2_with ((with_reducible refine HF.out.mono ?_);rintro e w2 ⟨rfl,h2⟩;have X2:=aA h2;clear h2)
  go_ret2
  rw [HP.out]
  exact ⟨rfl,Eb.of H2.out ((HM.out.same X2.out 1).pre Mi.out) (H3.out.tick 1) (H4.out.tick 1 1 (by omega) (Nat.le_refl _)) zej.out⟩
 |true=>
  rw [hf] at HF
  have ψ:=aA hf
  clear hf
  go_upto_if 14 with (first
   | ((with_reducible refine HF.out.mono ?_);rintro e w2 ⟨rfl,h2⟩;have X2:=aA h2;have s0:=(SB.out.ext h2).cell 0;clear h2)
   | ((with_reducible refine (HS.out w2 X2.out).mono ?_);rintro e w3 ⟨o,h12,rfl,h3⟩;have O1:=aA (Bl H3.out.rows h12);have O2:=aA h12;have S3:=aA h3;clear h12 h3))
  cases o with
  |some z=>
   obtain ⟨hz,s,rfl⟩:=O1.out
   have zeI:(0:Int)≤(s:Int):=by omega
   have bR:fP S r=(S,false,0):=by unfold fP;rw [ψ.out,hz];rfl
   have HP:=aA bR
   clear bR hz
   dsimp only [Option.getD]
   go_wp2_with fail
   go_ret2
   rw [HP.out]
   exact ⟨rfl,Eb.of H2.out ((S3.out.pre X2.out).pre Mi.out) (H3.out.tick 1) (H4.out.tick 1 1 (by omega) (Nat.le_refl _)) zej.out⟩
  |none=>
   have bE:=O1.out
   have Rh:=aA (show inB S.rows r=false from bE)
   dsimp only [Option.getD]
   obtain ⟨lab3,s3,d3,c3⟩:=S3.out
   have M3:=aA s3;have D3:=aA d3;have C3:=aA c3
   have Pm:¬ lab.dom sb:=fun ⟨i,hi⟩=>by have:=HH.out.lt _ _ hi;have:=Ww.out;omega
   have zcq:=aA (c3.blk (SB.out.ext X2.out) Pm)
   clear s3 d3 c3 S3 bE
   have s0:w3.cell? ⟨sb,0,none⟩=some (.pointer (some ⟨x,0,none⟩)):=zcq.out.cell 0
   have a1:w3.cell? ⟨x,1,none⟩=some (.int .i64 v.most):=by rw [← H3.out.x];exact M3.out.str.cell 1
   have a2:w3.cell? ⟨x,2,none⟩=some (.int .i64 (v.L:Int)):=by rw [← H3.out.x];exact M3.out.str.cell 2
   have hR:=aA (show dB (v.tick 1) from (H4.out.tick 1 1 (by omega) (Nat.le_refl _)).row)
   have HLen:=aA (fun (w4:World) (h4:aD w3 w4)=>Wh (M3.out.ext h4) hR.out)
   rw [show (v.tick 1).x=v.x from rfl,H3.out.x] at HLen
   rw [show (v.tick 1).P=v.P from rfl] at HLen
   go_upto_region 5 with fail
   have s0':=aB s0;have a1':=aB a1
   clear s0 a1 a2
   refine aC 8 (by kernel_rfl) (by kernel_rfl) (by kernel_rfl) ?_
   iterate 1
    refine aK (by kernel_rfl) (by kernel_rfl) ?_
    apply Exists.intro
    refine ⟨fun w1 aT=>?_,fun K hK=>?_⟩
    ·go_simp;first | done | rfl
    go_simp;refine hK _ _ ?_;clear hK K
   iterate 1
    refine aK (by kernel_rfl) (by kernel_rfl) ?_
    apply Exists.intro
    refine ⟨fun w1 aT=>?_,fun K hK=>?_⟩
    ·go_simp;first | done | rfl | exact HLen.out _ ‹_›
    go_simp;refine hK _ _ ?_;clear hK K
   iterate 6
    refine aK (by kernel_rfl) (by kernel_rfl) ?_
    apply Exists.intro
    refine ⟨fun w1 aT=>?_,fun K hK=>?_⟩
    ·go_simp;first | done | rfl
    go_simp;refine hK _ _ ?_;clear hK K
   refine aH ⟨rfl,by kernel_rfl,fun w4 hw4=>?_⟩
   simp only [bL]
   refine wpList_nil ?_
   clear s0' a1' HLen
   have M4:=aA (M3.out.ext hw4);have zhj:=aA (zcq.out.ext hw4);have X4:=aA hw4
   clear hw4
   have Ej:v.P.length≤v.most:=by
    have h1:=(HH.out.part 2).ok.live
    have h2:=(HH.out.part 2).ok.len
    have h3:=H4.out.row.lv
    omega
   by_cases hfull:v.P.length=v.most
   ·have hb:((v.P.length:Int) == (v.most:Int))=true:=by simp [hfull]
    have bR:fP S r=(S,false,31):=by
     unfold fP
     rw [ψ.out,Rh.out,if_neg (show ¬ S.rows.length<S.most by rw [H3.out.rows,H3.out.most,List.length_map];omega)];rfl
    have HP:=aA bR
    clear bR Ej hfull
    rw [hb]
    go_wp2_with fail
    go_ret2
    rw [HP.out]
    exact ⟨rfl,Eb.of H2.out (((show fK w2 lab w4 (v.tick 1) from ⟨lab3,M4.out,D3.out,C3.out.trans' (aF.of X4.out)⟩).pre X2.out).pre Mi.out) (H3.out.tick 1) (H4.out.tick 1 1 (by omega) (Nat.le_refl _)) zej.out⟩
   ·have hb:((v.P.length:Int) == (v.most:Int))=false:=by simp;omega
    have i4:=aA (show v.P.length<v.most by omega)
    rw [hb]
    clear hb hfull Ej
    obtain ⟨i0,eQ,hz0,hz1,eO⟩:=info_parts rB
    have zO:=H4.out.row.most
    have zad:=H4.out.row.gsl
    have zat:v.L≤5:=by unfold bI.L;omega
    have uE:=mT (P:=Tryz.prog) 23 3 i0 _ Tryz.underlying23 eQ hz0 (by omega) .i64 .i64 v.L (by omega)
    simp only [hz1,Nat.mul_one,Value.cells] at uE
    have s0:w4.cell? ⟨sb,0,none⟩=some (.pointer (some ⟨x,0,none⟩)):=zhj.out.cell 0
    have a2:w4.cell? ⟨x,2,none⟩=some (.int .i64 (v.L:Int)):=by rw [← H3.out.x];exact M4.out.str.cell 2
    obtain ⟨vals,hvals⟩ : ∃ vals,vals=(List.replicate v.L (-1:Int)).map (Value.int .i64):=⟨_,rfl⟩
    have n_:vals.length=v.L:=by rw [hvals,List.length_map,List.length_replicate]
    have Kl:=aA hvals;have υ:=aA n_
    clear hvals n_ hz0 hz1 eO eQ zad zO
    have zcn:(0:Int)≤(v.L:Int):=by omega
    have Mb:=aA (show aL (w4.alloc (.cells (madeCells #[.int .i64 0] v.L) 3)) w4.heap.size 3 (fA vals (.int .i64 0) 0) by rw [← υ.out,yC];exact aL.new _ _ _)
    go_upto_region 8 with fail
    have E5:=aA (aD.alloc w4 (.cells (madeCells #[.int .i64 0] v.L) 3))
    generalize w4.alloc (.cells (madeCells #[.int .i64 0] v.L) 3)=w5 at *
    have zin:=aA (show ¬ lab3.dom w4.heap.size from fun ⟨j,hj⟩=>by have:=M4.out.lt _ _ hj;omega)
    have iZ:=aA (show sb<w4.heap.size∧w.heap.size≤w4.heap.size from ⟨zhj.out.lt,by have h1:=Mi.out.size;have h2:=X2.out.size;have h3:=C3.out.size;have h4:=X4.out.size;omega⟩)
    generalize w4.heap.size=be at *
    clear uE s0 a2
    go_wp2_with fail
    have zhZ:=Mb
    clear Mb
    go_loopw [7,34] (fun _ s34 w'=>∃ i:Nat,i≤v.L∧s34=.int .i64 i∧Hid (aL w' be 3 (fA vals (.int .i64 0) i))∧Hid (aF (fun b=>b=be) w5 w')) (fun _ s34 _=>v.L - (intOf s34).toNat)
    case atStart=>exact ⟨0,by omega,rfl,zhZ,aF.refl _ _⟩
    case round=>
     obtain ⟨i,hi,rfl,hB,hX⟩:=hrel
     by_cases hiL:i<v.L
     ·have e1:wr.cell? ⟨be,i,none⟩=some (.int .i64 0):=(hB.out.cell i).trans (Bk _ _ i (by have:=υ.out;omega))
      have e2:wr.frozen? ⟨be,i,none⟩=false:=hB.out.frozen i
      have hv:vals[i]?=some (.int .i64 (-1)):=by rw [Kl.out,List.getElem?_map,List.getElem?_replicate,if_pos hiL];rfl
      have HBn:=aA (show aL (wr.setCell ⟨be,i,none⟩ (.int .i64 (-1))) be 3 (fA vals (.int .i64 0) (i+1)) by
       have h1:=hB.out.set_ i (.int .i64 (-1))
       rw [tX _ _ i _ hv] at h1
       exact h1)
      have HXn:=aA (aF.setCell (B:=fun b=>b=be) hX.out (p:=⟨be,i,none⟩) (.inl rfl) (.int .i64 (-1)))
      have zjv:(i:Int)<(v.L:Int):=by omega
      clear hv
      go_wp2_with fail
      go_roundw
      case rel=>exact ⟨i+1,by omega,by go_num,HBn,HXn⟩
      case measure=>simp [intOf];omega
     ·obtain rfl:i=v.L:=by omega
      clear zhZ
      have zkF:=aA (show ∀ b,lab3.dom b→¬ b=be from fun b hb e=>zin.out (e ▸ hb))
      have M6:=aA ((M4.out.ext E5.out).chg hX.out zkF.out)
      have Dh:sb≠be:=by have:=iZ.out.1;omega
      have zir:=aA (hX.out.blk (zhj.out.ext E5.out) Dh)
      have zbH:=HA.out.ext X2.out |>.chg (fun a ha hd=>lY.out a ha (H2.out _ hd)) C3.out
      have zf5:=aA (((zbH.ext X4.out).ext E5.out).chgS (Xt.out.at_.2.lt' (by omega)) (fun a ha hl e=>by have:=iZ.out.2;omega) hX.out)
      have HCl:=aA (wZ (aO r) A n c wr zf5.out.at_.2 (fB r) (by have:=Xt.out.len;omega))
      have Fc:=aA (show eU w lab wr lab3 from ⟨fun b hb=>(D3.out b hb).imp id fun h=>by have h1:=Mi.out.size;have h2:=X2.out.size;omega,((((aF.of (Mi.out.trans X2.out)).trans' C3.out).trans' (aF.of (X4.out.trans E5.out))).trans hX.out fun g hg hl=>by have:=iZ.out.2;omega)⟩)
      clear zbH Dh
      go_upto_region 14 with ((with_reducible refine HCl.out.mono ?_);rintro e w7 ⟨A7,c7,rfl,h7,x7⟩;have O7:=aA h7;have X7:=aA x7;clear h7 x7)
      obtain rfl:n=r.length:=Xt.out.at_.len
      have yp:=aA (aL.new w7 28 #[.slice A7 r.length c7])
      have Uo:=aA (aD.alloc w7 (.cells #[.slice A7 r.length c7] 28))
      obtain ⟨w8,hw8⟩ : ∃ w8,w7.alloc (.cells #[.slice A7 r.length c7] 28)=w8:=⟨_,rfl⟩
      rw [hw8] at yp Uo ⊢
      clear hw8
      have X8:=aA (X7.out.trans Uo.out)
      have Ya:=aA (show wr.heap.size≤w7.heap.size∧w7.heap.size<w8.heap.size from ⟨X7.out.size,yp.out.lt⟩)
      have O8:=aA (iL O7.out Uo.out)
      have jp:=aA (show ∀ a,A7=some a→a.block<w7.heap.size from fun a ha=>(O7.out.lt a.block (by rw [ha];rfl)).2)
      generalize w7.heap.size=kb at *
      have zdJ:∀ b,(∃ a,A7=some a∧a.block=b)→b<w8.heap.size∧¬ lab3.dom b:=by
       rintro b ⟨a,ha,rfl⟩
       have h1:=wC O7.out a ha
       refine ⟨?_,fun ⟨j,hj⟩=>by have:=M6.out.lt _ _ hj;omega⟩
       have h2:(Value.slice A7 r.length c7).ownBlock=some a.block:=by rw [ha];rfl
       exact (O8.out.lt _ h2).2
      have M8:=aA ((M6.out.ext X8.out).adopt zdJ)
      have Ys:=aA (show ∀ b,(lab3.with_ 8 (fun b=>∃ a,A7=some a∧a.block=b)).dom b→lab3.dom b∨wr.heap.size≤b from fun b hb=>(aP.with_dom hb).elim (fun ⟨a,ha,e⟩=>.inr (by rw [← e];exact wC O7.out a ha)) .inl)
      have zhH:pW w8 ((lab3.with_ 8 (fun b=>∃ a,A7=some a∧a.block=b)).own 8) A7 r.length r:=⟨aW.own O8.out,fun a ha=>aP.with_own ⟨a,ha,rfl⟩⟩
      have zgn:cB w8 (some ⟨be,0,none⟩) v.L (eC v.gs r []):=by
       have hb:=hB.out
       have e:eC v.gs r []=List.replicate v.L (-1):=by simp [eC,Wp,Zg,oi,bI.L,List.map_const',List.replicate_succ]
       have e2:v.L=(List.replicate v.L (-1:Int)).length:=by rw [List.length_replicate]
       rw [e]
       rw [Kl.out,show (fA ((List.replicate v.L (-1:Int)).map (Value.int .i64)) (.int .i64 0) v.L)=fA ((List.replicate v.L (-1:Int)).map (Value.int .i64)) (.int .i64 0) (List.replicate v.L (-1:Int)).length by rw [← e2]] at hb
       have h1:=cB.ofBlk hb (by rw [← e2];omega)
       rw [← e2] at h1
       exact (cB.own h1).ext X8.out
      have zez:¬ (lab3.with_ 8 (fun b=>∃ a,A7=some a∧a.block=b)).dom be:=fun hd=>(Ys.out be hd).elim zin.out fun h=>by have h1:=hB.out.lt;omega
      have hT:=H4.out.tick 1 1 (by omega) (Nat.le_refl _)
      have HLink:=aA (J1 M8.out (D:=D) (N:=Y) ⟨hT.row,hT.lan,HY.out.1⟩ (by have h1:=HY.out.2;have h2:=Ra (N:=N) (by omega);omega) (by have h1:=hT.K;have h2:=mD hN;omega) c7 zhH (by show aV v.width r=true;rw [← H3.out.width];exact ψ.out) Xt.out.small Xt.out.wf (O2.out.2 rfl) i4.out (P1:=v.P) (P2:=[]) (List.append_nil _).symm v.L
       (fun w' lab' v' _ _ _ _ _ hc=>⟨zgn.1,zgn.2.chg hc fun a ha=>by injection ha with ha;subst ha;exact zez⟩))
      rw [show (v.tick 1).x=v.x from rfl,H3.out.x] at HLink
      have zgF:=aA (zir.out.ext X8.out)
      have vz:=aA (show ¬ (lab3.with_ 8 (fun b=>∃ a,A7=some a∧a.block=b)).dom sb∧¬ (lab3.with_ 8 (fun b=>∃ a,A7=some a∧a.block=b)).dom kb from ⟨fun hd=>(Ys.out sb hd).elim (fun h=>(D3.out sb h).elim Pm fun h=>by have h1:=SB.out.ext X2.out |>.lt;omega) fun h=>by have h1:=zir.out.lt;omega,fun hd=>(aP.with_dom hd).elim (fun ⟨a,ha,e⟩=>by have:=jp.out a ha;omega) fun ⟨j,hj⟩=>by have:=M6.out.lt _ _ hj;have:=Ya.out.1;omega⟩)
      have s0:w8.cell? ⟨sb,0,none⟩=some (.pointer (some ⟨x,0,none⟩)):=zgF.out.cell 0
      have k0:w8.cell? ⟨kb,0,none⟩=some (.slice A7 r.length c7):=yp.out.cell 0
      clear zdJ zhH zgn zez hT HCl
      go_upto_region 15 with ((with_reducible refine HLink.out.mono ?_);rintro e w9 ⟨s,v9,D9,rfl,ν,ht9,⟨lab9,m9,d9,c9⟩,a9⟩;have L9:=aA ν;have T9:=aA ht9;have M9:=aA m9;have D9':=aA d9;have C9:=aA c9;have A9:=aA a9;clear ν ht9 m9 d9 c9 a9)
      have bR:fP S r=({S with rows:=S.rows ++ [r]},true,0):=by
       unfold fP
       rw [ψ.out,Rh.out,if_pos (show S.rows.length<S.most by rw [H3.out.rows,H3.out.most,List.length_map];exact i4.out)];rfl
      have HP:=aA bR
      have nC:=aA (bB (show eU w lab w8 (lab3.with_ 8 (fun b=>∃ a,A7=some a∧a.block=b)) from ⟨fun b hb=>(Ys.out b hb).elim (Fc.out.1 b) fun h=>.inr (Nat.le_trans Fc.out.2.size h),(eV Fc.out X8.out).2⟩) ⟨D9'.out,C9.out⟩)
      have zaO:=aA (C9.out.blk zgF.out vz.out.1)
      have ziw:=aA (C9.out.blk yp.out vz.out.2)
      have zd1:=aA (show ¬ lab9.dom sb∧¬ lab9.dom kb from ⟨fun hd=>(D9'.out _ hd).elim vz.out.1 fun h=>by have:=zgF.out.lt;omega,fun hd=>(D9'.out _ hd).elim vz.out.2 fun h=>by have:=yp.out.lt;omega⟩)
      have zbs:v9.x=x:=L9.out.kept.x.trans H3.out.x
      have s0:w9.cell? ⟨sb,0,none⟩=some (.pointer (some ⟨x,0,none⟩)):=zaO.out.cell 0
      have a11:w9.cell? ⟨x,11,none⟩=some (.bool v9.marked):=by rw [← zbs];exact M9.out.str.cell 11
      have jy:=aA zbs
      have uE:=aA (show v9.marked=v.marked from L9.out.kept.marked)
      clear bR k0 zbs
      cases hm9:v9.marked with
      |false=>
       rw [hm9] at a11
       have Δ:=aA hm9
       clear hm9
       go_wp2_with fail
       go_ret2
       rw [HP.out]
       exact ⟨rfl,Eb.of H2.out ⟨lab9,M9.out,nC.out.1,nC.out.2⟩ (H3.out.put L9.out (by rw [← uE.out];exact Δ.out)) (H4.out.put L9.out A9.out HY.out.2 (by rw [← uE.out];exact Δ.out)) ⟨A9.out.gen,by rw [show v9.U=v.U from L9.out.kept.U];exact zej.out.2⟩⟩
      |true=>
       rw [hm9] at a11
       have Δ:=aA hm9
       clear hm9
       go_upto_region 16 with fail
       clear a11 s0
       have za9:∀ (fn:Fn) (first cap:Array Value) (w:World),(Instr.makeFunc fn first cap).run Tryz.prog w=.ok (.func fn first cap) w:=fun _ _ _ _=>rfl
       have Vu:=aA (M9.out.adopt (C:=fun b=>b=sb∨b=kb) (fun b hb=>hb.elim (fun e=>by rw [e];exact ⟨zaO.out.lt,zd1.out.1⟩) fun e=>by rw [e];exact ⟨ziw.out.lt,zd1.out.2⟩))
       obtain ⟨hxb,hxin,-,o6⟩:=Vu.out.part 0
       have zc4:=aA o6;have kp:=aA hxb
       have cZ:=(Vu.out.part 8).2.1
       have k_:=aA (show v9.un.length≤N by rw [← cZ,L9.out.kept.U];exact H4.out.ul)
       have hz:oM w9 ((lab9.with_ 8 (fun b=>b=sb∨b=kb)).own 8) v9.x (.func (.func 140) #[] #[.pointer (some ⟨sb,0,none⟩),.pointer (some ⟨kb,0,none⟩)]) (.put r A7 r.length c7):=by
        refine ⟨sb,kb,rfl,by rw [jy.out];exact zaO.out,aP.with_own (.inl rfl),ziw.out,aP.with_own (.inr rfl),?_⟩
        obtain ⟨A',n',c',e1,e2⟩:=(Vu.out.part 8).1 s r (by rw [L9.out.P];simp)
        rw [T9.out] at e1
        obtain ⟨rfl,rfl,rfl⟩ : A7=A'∧r.length=n'∧c7=c':=by injection e1 with e1;injection e1 with e1 e3 e4;exact ⟨e1,e3,e4⟩
        exact e2
       have HZ:=aA hz
       clear hxb hxin o6 hz cZ
       have s0:w9.cell? ⟨sb,0,none⟩=some (.pointer (some ⟨x,0,none⟩)):=zaO.out.cell 0
       have a12:w9.cell? ⟨x,12,none⟩=some (.slice v9.uA v9.un.length v9.uC):=by rw [← jy.out];exact M9.out.str.cell 12
       have s0:=aB s0
       have a12:=aB a12
       refine rN 7 (fun w'=>w'.cell? ⟨sb,0,none⟩=some (.pointer (some ⟨x,0,none⟩))) _ rfl ?_ ?_ ?_ ?_ ?_ ?_
       ·kernel_rfl
       ·kernel_rfl
       ·assumption
       ·kernel_rfl
       ·exact fun _ _ _ _ _ h=>h
       refine ⟨_,_,?_,rfl,?_⟩;rotate_left
       refine ⟨⟨by kernel_rfl,fun w9 h9=>?_⟩,fun _ _ _ h=>h,fun K hK=>?_⟩
       ·go_simp;first | done | rfl
       go_simp;refine hK _ _ ?_;clear hK K
       iterate 5
        refine aK (by kernel_rfl) (by kernel_rfl) ?_
        apply Exists.intro
        refine ⟨fun w1 aT=>?_,fun K hK=>?_⟩
        ·go_simp;first | done | rfl
        go_simp;refine hK _ _ ?_;clear hK K
       refine cU [] (fun u w1=>∃ gb,u=.slice (some ⟨gb,0,none⟩) 1 1∧aL w1 gb 1 #[.func (.func 140) #[] #[.pointer (some ⟨sb,0,none⟩),.pointer (some ⟨kb,0,none⟩)]]) (fun u w1 w2 _ h2 ⟨gb,h3,h4⟩=>⟨gb,h3,h4.ext h2⟩) rfl (by kernel_rfl) (fun w1 aT=>?_) ?_
       ·clear a12
        simp only [cN]
        go_simp
        exact ⟨aD.alloc _ _,aL.new _ _ _⟩
       refine aH ⟨rfl,by kernel_rfl,fun wa sW=>?_⟩
       simp only [bL]
       rintro _ ⟨gb,rfl,hgb⟩
       simp only [List.drop,List.take,List.dropLast]
       have HS:=aA (show Sl wa (some ⟨gb,0,none⟩) 1 1 [.func (.func 140) #[] #[.pointer (some ⟨sb,0,none⟩),.pointer (some ⟨kb,0,none⟩)]] from hgb.sl rfl)
       have dG:=aA (show aQ [Value.func (.func 140) #[] #[.pointer (some ⟨sb,0,none⟩),.pointer (some ⟨kb,0,none⟩)]] from fun v hv=>by simp at hv;rw [hv];rfl)
       have MA:=aA (Vu.out.ext sW);have UA:=aA (zc4.out.ext sW);have XA:=aA (kp.out.ext sW);have ZA:=aA (oM.chg (C:=fun _=>False) (aF.of sW) (fun _ _ h=>h) HZ.out);have SA:=aA (zaO.out.ext sW);have EA:=aA sW
       clear s0 a12 hgb sW zc4 kp HZ
       obtain ⟨i0,eQ,hz0,hz1,eO⟩:=info_parts jq
       have qC:=zev (N:=N) k_.out (by omega)
       go_wp2_with (at_builtin;refine aI rfl (.tmp 55) (.tmp 57) _ rfl ((lab9.with_ 8 (fun b=>b=sb∨b=kb)).own 0) 1 i0 _ 1 8 Tryz.underlying129 eQ hz0 hz1 eO rfl (by omega) (.slice v9.uA v9.un.length v9.uC) v9.un.length v9.un rfl UA.out _ 1 1 _ rfl HS.out dG.out qC.1 qC.2 ?_;intro A8 c8 w8 own8 G8 C8)
       have Vq:=XA.out.grown G8.out (aN UA.out.own XA.out (by decide))
       have qh:=SA.out.grown G8.out (aN UA.out.own SA.out (by decide))
       have HPush:=aA (MA.out.push ZA.out own8.out G8.out C8.out)
       have zdw:=aA qh
       have f12:w8.frozen? ⟨x,12,none⟩=false:=by rw [← jy.out];exact Vq.frozen 12
       have v12:w8.cell? ⟨x,12,none⟩=some (.slice v9.uA v9.un.length v9.uC):=by rw [← jy.out];exact Vq.cell 12
       have aZ:sb≠x:=fun e=>Pm ⟨0,by rw [e,← H3.out.x];exact (HH.out.part 0).2.1⟩
       have zh:=aA aZ
       rw [show (⟨v9.x,12,none⟩ : Addr) =⟨x,12,none⟩ by rw [jy.out]] at HPush
       simp only [zdb]
       refine ⟨qh.cell 0,?_⟩
       clear Vq qh aZ XA UA SA ZA own8 G8 C8
       unfold Wb
       apply Exists.intro
       refine ⟨fun w9=>?_,fun K hK=>?_⟩
       ·go_simp;first | done | rfl
       go_simp;refine hK _ ?_;clear hK K
       unfold Wb
       apply Exists.intro
       refine ⟨fun w9=>?_,fun K hK=>?_⟩
       ·go_simp;first | done | rfl
       go_simp;refine hK _ ?_;clear hK K
       unfold Wb
       go_wp2_with fail
       refine ⟨(zdw.out.far (p:=⟨x,12,none⟩) zh.out _).cell 0,?_⟩
       go_wp2_with fail
       go_ret2
       rw [HP.out]
       obtain ⟨labE,mE,dE,cE⟩:=HPush.out
       have fI:=bB (show eU w lab wa (lab9.with_ 8 (fun b=>b=sb∨b=kb)) from ⟨fun b hb=>(aP.with_dom hb).elim (fun h=>.inr (h.elim (fun e=>by rw [e,← Ww.out];exact Nat.le_refl _) fun e=>by rw [e];exact Nat.le_trans Fc.out.2.size Ya.out.1)) (nC.out.1 b),(eV nC.out EA.out).2⟩) ⟨dE,cE⟩
       exact ⟨rfl,Eb.of H2.out ⟨labE,mE,fI.1,fI.2⟩ (H3.out.putM L9.out) (H4.out.putM L9.out A9.out HY.out.2 (Δ.out.symm.trans uE.out).symm) ⟨A9.out.gen,by rw [show ({v9 with uA:=A8,uC:=c8,un:=v9.un ++ [Value.func (.func 140) #[] #[.pointer (some ⟨sb,0,none⟩),.pointer (some ⟨kb,0,none⟩)]],U:=v9.U ++ [.put r A7 r.length c7]}:bI).U=v9.U ++ [.put r A7 r.length c7] from rfl,wl _ rfl,show v9.U=v.U from L9.out.kept.U];exact zej.out.2⟩⟩
theorem Bt {w:World} {B:Nat→Prop} {x:Nat} {S:aY} {N:Nat} (h:kK w B x S N) (hN:N+262145≤8796093022208) {r:List V} {A:Option Addr} {n:Nat} (c:Nat) (ha:bD w A n r) (hB:dR B A) :
 Calls Tryz.prog 135 #[.pointer (some ⟨x,0,none⟩),.slice A n c] w fun e w'=>e=.returned (.tuple #[.bool (fP S r).2.1,.int .i64 (fP S r).2.2])∧pA w B x (fP S r).1 (N+262145) w':=by
 refine (χ h.stp (by omega) c ha hB).mono ?_
 rintro e w' ⟨rfl,hs⟩
 exact ⟨rfl,hs.sts⟩
structure Rs (w:World) (v:bI):Prop where
 str:aL w v.x 131 v.cells
 ar:∃ B,qF w B v.xs v.most v.sl v.fr v.lv
 map:∃ n,lE w v.rm n v.refs
 rows:∀ i r,(i,r)∈v.P→∃ A n c,oV v.sl i=some (.slice A n c)∧aW w A n r
theorem cW.rd {w:World} {lab:aP} {v:bI} (h:cW w lab v):Rs w v:=
 ⟨h.str,⟨_,h.part 2⟩,(h.part 3).2.imp fun _ h=>h.2,fun i r hi=>by
  obtain ⟨A,n,c,h1,h2⟩:=(h.part 8).1 i r hi
  exact ⟨A,n,c,h1,h2.1⟩⟩
theorem Rs.ext {w w':World} {v:bI} (h:Rs w v) (hw:aD w w'):Rs w' v:=by
 obtain ⟨B,hB⟩:=h.ar
 exact ⟨h.str.ext hw,⟨B,hB.chg (C:=fun _=>False) (aF.of hw) (fun _ _ h=>h)⟩,h.map.imp fun _ h=>h.ext hw,fun i r hi=>by
  obtain ⟨A,n,c,h1,h2⟩:=h.rows i r hi
  exact ⟨A,n,c,h1,h2.ext hw⟩⟩
theorem cW.rdChg {w w':World} {lab:aP} {v:bI} {C:Nat→Prop} (h:cW w lab v) (hw:aF C w w') (hC:∀ g,C g→lab.own 7 g∨¬ lab.dom g):Rs w' v:=by
 have aZ:∀ i,i≠7→∀ g,lab.own i g→¬ C g:=fun i hi g hg hc=>(hC g hc).elim (fun h7=>hi (by have h1:some i=some 7:=hg.symm.trans h7;injection h1)) fun hd=>hd ⟨i,hg⟩
 have p0:=kN hw (aZ 0 (by omega)) 0 (h.part 0)
 have p2:=kN hw (aZ 2 (by omega)) 2 (h.part 2)
 have p3:=kN hw (aZ 3 (by omega)) 3 (h.part 3)
 have p8:=kN hw (aZ 8 (by omega)) 8 (h.part 8)
 exact ⟨p0.1,⟨_,p2⟩,p3.2.imp fun _ h=>h.2,fun i r hi=>by
  obtain ⟨A,n,c,h1,h2⟩:=p8.1 i r hi
  exact ⟨A,n,c,h1,h2.1⟩⟩
theorem cW.chgTo {w w':World} {lab:aP} {v:bI} (h:cW w lab v) (j:Nat) {B' C:Nat→Prop} (hB:∀ b,B' b→lab.own j b∨w.heap.size≤b) (hl:∀ b,B' b→b<w'.heap.size) (hw:aF C w w') (hC:∀ g,C g→lab.own j g∨¬ lab.dom g) (hp:Proofs.YtahdiiaadjdmcaaGreat.part w' B' v j) :
 ∃ lab',cW w' lab' v∧∀ b,lab'.dom b→lab.dom b∨(w.heap.size≤b∧B' b):=by
 have bC:∀ b i,lab.grow w.heap.size j B' b=some i→b<w'.heap.size:=fun b i hb=>by
  unfold aP.grow at hb
  split at hb
  ·have:=hw.size;omega
  ·split at hb
   ·exact hl b (by assumption)
   ·cases hb
 refine ⟨lab.grow w.heap.size j B',⟨bC,fun i=>?_⟩,fun b hb=>?_⟩
 ·by_cases hi:i=j
  ·subst hi
   refine kE (fun b hb=>?_) (fun b hb=>bC b _ hb) i hp
   show lab.grow w.heap.size i B' b=some i
   unfold aP.grow
   rcases hB b hb with h1 | h1
   ·rw [if_pos (h.lt b _ h1)];exact h1
   ·rw [if_neg (by omega),if_pos hb]
  ·have e:∀ b,lab.own i b→(lab.grow w.heap.size j B').own i b:=fun b hb=>by
    show lab.grow w.heap.size j B' b=some i
    unfold aP.grow
    rw [if_pos (h.lt b _ hb)];exact hb
   exact kE e (fun b hb=>bC b _ hb) i (kN hw (fun g hg hc=>(hC g hc).elim (fun h7=>hi (by
    have h1:some i=some j:=hg.symm.trans h7
    injection h1)) fun hd=>hd ⟨i,hg⟩) i (h.part i))
 ·obtain ⟨i,hi⟩:=hb
  unfold aP.grow at hi
  split at hi
  ·exact .inl ⟨i,hi⟩
  ·split at hi
   ·exact .inr ⟨by omega,by assumption⟩
   ·cases hi
def uI (w:World) (lab:aP) (w':World) (v':bI) (M:Nat):Prop:=∃ lab',cW w' lab' v'∧(∀ b,lab'.dom b→lab.dom b∨w.heap.size≤b)∧aF lab.dom w w'∧(∀ b,lab'.dom b→b<M)∧w.heap.size≤M∧M≤w'.heap.size
set_option maxRecDepth 100000 in
theorem wD {w:World} {v:bI} (h:Rs w v) (hr:dB v) {s l:Nat} {r:List V} (hp:(s,r)∈v.P) (hl:l<v.L) :
 Calls Tryz.prog 83 #[.pointer (some ⟨v.x,0,none⟩),.int .i64 ((s*v.L+l:Nat):Int)] w (wN w 85 3 r.length (aO r)):=by
 obtain ⟨A,n,c,hth,dY⟩:=h.rows s r hp
 obtain rfl:=dY.1
 obtain ⟨gn,wT⟩:=Bd hth
 have zdj:aX v.sl s=gn:=jJ wT
 have vF:=hr.refs _ hp
 dsimp only at vF
 rw [zdj] at vF
 obtain ⟨B,hB⟩:=h.ar
 have Lm:s<v.most:=Nat.lt_of_lt_of_le (xE (by rw [hth];rfl)) hB.ok.len
 have zO:=hr.most
 have zad:=hr.gsl
 have zat:v.L≤5:=by unfold bI.L;omega
 have zcn:0<v.L:=by omega
 have q_:r.length≤30:=by
  have h1:=(hr.rows _ hp).1
  unfold aV at h1
  rw [Bool.and_eq_true,decide_eq_true_eq] at h1
  rw [h1.1];exact hr.width
 have a4:w.cell? ⟨v.x,4,none⟩=some (.pointer (some ⟨v.xs,0,none⟩)):=h.str.cell 4
 have a5:w.cell? ⟨v.x,5,none⟩=some (.map (some v.rm)):=h.str.cell 5
 have a2:w.cell? ⟨v.x,2,none⟩=some (.int .i64 (v.L:Int)):=h.str.cell 2
 have qH:∀ w3,aD w w3→(Instr.lookup 124 (.map (some v.rm)) (.int .i64 (s:Int)) false).run Tryz.prog w3=.ok (.agg #[.int .i64 s,.int .i64 gn]) w3:=fun w3 h3=>by
  obtain ⟨nn,hmap⟩:=(h.ext h3).map
  have h9:=vL 124 186 Tryz.underlying124 (z:=.agg #[.int .i64 0,.int .i64 0]) (fun w=>yw w) hmap (k:=s) (by omega)
  rw [vF] at h9
  exact h9
 have HAt:=aA (fun (w3:World) (h3:aD w w3)=>Fe (hB.chg (C:=fun _=>False) (aF.of h3) (fun _ _ h=>h)) wT)
 have HCl:=aA (fun (w3:World) (h3:aD w w3)=>wZ (aO r) A r.length c w3 (dY.ext h3).2 (fB r) (by omega))
 have Vr:∃ ca:Nat,Hid (ca=s*v.L+l)∧(ca:Int).tdiv (v.L:Int)=(s:Int):=⟨s*v.L+l,rfl,by
  have h1:(s*v.L+l) / v.L=s:=by rw [Nat.mul_comm,Nat.mul_add_div zcn,Nat.div_eq_of_lt hl,Nat.add_zero]
  rw [Int.tdiv_eq_ediv_of_nonneg (by omega),← Int.natCast_ediv,h1]⟩
 obtain ⟨ca,Vt,zfm⟩:=Vr
 rw [← Vt.out]
 have sW:IntKind.i64.wrap (s:Int)=(s:Int):=IntWalk.i64_in _ (by omega)
 have xm:¬ (v.L:Int)=0:=by omega
 have zkR:¬ v.L=0:=by omega
 clear h hr hB dY hth wT vF
 go_enter Tryz.func83,Tryz.ntmps83
 go_upto_region 1 with fail
 have a4:=aB a4;have a5:=aB a5;have a2:=aB a2
 refine aC 21 (by kernel_rfl) (by kernel_rfl) (by kernel_rfl) ?_
 iterate 15
  refine aK (by kernel_rfl) (by kernel_rfl) ?_
  apply Exists.intro
  refine ⟨fun w1 aT=>?_,fun K hK=>?_⟩
  ·go_simp;first | done | rfl
  go_simp;refine hK _ _ ?_;clear hK K
 iterate 1
  refine aK (by kernel_rfl) (by kernel_rfl) ?_
  apply Exists.intro
  refine ⟨fun w1 aT=>?_,fun K hK=>?_⟩
  ·go_simp;first | done | rfl | exact HAt.out _ ‹_›
  go_simp;refine hK _ _ ?_;clear hK K
 iterate 5
  refine aK (by kernel_rfl) (by kernel_rfl) ?_
  apply Exists.intro
  refine ⟨fun w1 aT=>?_,fun K hK=>?_⟩
  ·go_simp;first | done | rfl
  go_simp;refine hK _ _ ?_;clear hK K
 refine aH ⟨rfl,by kernel_rfl,fun w1 aT=>?_⟩
 simp only [bL]
 refine wpList_nil ?_
 have X1:=aA aT
 clear a4 a5 a2 qH HAt aT
 go_wp2_with ((with_reducible refine (HCl.out w1 X1.out).mono ?_);rintro e w2 ⟨A2,c2,rfl,h2,x2⟩;have O2:=aA h2;have X2:=aA x2;clear h2 x2)
 go_ret
 exact ⟨A2,c2,rfl,dS O2.out X1.out.size,X1.out.trans X2.out⟩
theorem K5 (w:World) (x:Nat) (l:Int) :
 Calls Tryz.prog 82 #[.pointer (some ⟨x,0,none⟩),.int .i64 l] w fun e w'=>∃ gx gn,e=.returned (.func (.func 99) #[] #[.pointer (some ⟨gx,0,none⟩),.pointer (some ⟨gn,0,none⟩)])∧aL w' gx 128 #[.pointer (some ⟨x,0,none⟩)]∧aL w' gn 3 #[.int .i64 l]∧w.heap.size≤gx∧w.heap.size≤gn∧gx≠gn∧aD w w':=by
 have za9:∀ (fn:Fn) (first cap:Array Value) (w:World),(Instr.makeFunc fn first cap).run Tryz.prog w=.ok (.func fn first cap) w:=fun _ _ _ _=>rfl
 go_enter Tryz.func82,Tryz.ntmps82
 go_wp2_with fail
 go_ret
 have hb:=aL.new (w.alloc (.cells #[.pointer (some ⟨x,0,none⟩)] 128)) 3 #[.int .i64 l]
 rw [World.size_alloc] at hb
 exact ⟨w.heap.size,w.heap.size+1,rfl,(aL.new w _ _).ext (aD.alloc _ _),hb,Nat.le_refl _,by omega,by omega,(aD.alloc _ _).alloc' _⟩
theorem Vb {w:World} (l x gx gn:Nat) (hx:aL w gx 128 #[.pointer (some ⟨x,0,none⟩)]) (wT:aL w gn 3 #[.int .i64 (-1)]) :
 Calls Tryz.prog 99 #[.func (.yield l) #[] #[],.pointer (some ⟨gx,0,none⟩),.pointer (some ⟨gn,0,none⟩)] w fun e w'=>e=.returned (.tuple #[])∧w'=w:=by
 have x0:w.cell? ⟨gx,0,none⟩=some (.pointer (some ⟨x,0,none⟩)):=hx.cell 0
 have x1:w.cell? ⟨gn,0,none⟩=some (.int .i64 (-1)):=wT.cell 0
 clear hx wT
 go_enter Tryz.func99,Tryz.ntmps99
 go_wp2_with ((with_reducible refine (Zh w x).mono ?_);rintro e w1 ⟨rfl,rfl⟩)
 refine bodyPost_ret (v:=.tuple #[]) (by simp [results,Tryz.results99,go_sem]) rfl ?_
 exact ⟨rfl,rfl⟩
end Go.Proofs.YtahdiiaadjdmcaaGreat
