import Derived.Test.YtahdiiaadjdmcaaGreatGbM
import Derived.Test.YtahdiiaadjdmcaaGreatExtIn
namespace Go.Proofs.YtahdiiaadjdmcaaGreat
open Go.RowKit
attribute [local go_sem] Oper.semAt_some
theorem Fq.chg {S:Nat→Prop} {w w':World} (h:Fq S w.heap.size w w'):aF S w w':=
 ⟨h.os,h.tape,h.output,h.size,fun k h1 h2=>h.block k h1 h2 fun h3=>by have:=h3.1;omega⟩
theorem Fq.base {S:Nat→Prop} {b b':Nat} {w w':World} (h:Fq S b w w') (hb:b'≤b):Fq S b' w w':=
 ⟨h.os,h.tape,h.output,h.size,fun k h1 h2 h3=>h.block k h1 h2 fun h4=>h3 ⟨by have:=h4.1;omega,h4.2⟩⟩
theorem blk_one' {w:World} {g:Nat} {t:TypeId} {u:Value} (h:aL w g t #[u]):∀ (j:Nat) (v:Value),[u][j]?=some v→w.cell? ((⟨g,0,none⟩ : Addr).add j)=some v:=fun j v hv=>by
 rw [kO,Nat.zero_add,h.cell]
 simpa using hv
def pV (cells:List Value):Prop:=cells.Pairwise fun u v=>∀ g,u.ownBlock=some g→v.ownBlock≠some g
theorem pV.push {cells:List Value} {u:Value} (h:pV cells) (hu:∀ v∈cells,∀ g,v.ownBlock=some g→u.ownBlock≠some g):pV (cells ++ [u]):=
 List.pairwise_append.2 ⟨h,List.pairwise_singleton _ _,fun a ha b hb=>by obtain rfl:=List.mem_singleton.1 hb;exact hu a ha⟩
theorem zbF {b:Nat} {w:World} {cells:List Value} {rows:List (List V)} (h:gJ (iN b) 1 w cells rows):∀ v∈cells,∀ g,v.ownBlock=some g→g<w.heap.size:=by
 induction h with
 | nil=>intro v hv;cases hv
 |@cons cs x cells xs h1 _ h4 _ ih=>
  intro v hv g hg
  rcases List.mem_append.1 hv with hv | hv
  ·obtain ⟨A9,n9,c9,rfl,ho⟩:=h4
   obtain rfl:v=.slice A9 n9 c9:=by simpa using hv
   exact (ho.lt g hg).2
  ·exact ih v hv g hg
def eA (b:Nat) (w:World) (A:Option Addr) (n c:Nat) (rows:List (List V)):Prop:=∃ cells,n=rows.length∧w.ownsRow b 28 1 (.slice A n c) n cells∧gJ (iN b) 1 w cells rows∧pV cells
theorem eA.nil (b:Nat) (w:World):eA b w none 0 0 []:=⟨[],rfl,World.ownsRow_nil _ _ _ _,.nil,.nil⟩
theorem eA.fr {S:Nat→Prop} {b:Nat} {w w':World} {A:Option Addr} {n c:Nat} {rows:List (List V)} (h:eA b w A n c rows) (hF:Fr S w w') (hS:∀ g,S g→g<b):eA b w' A n c rows:=by
 obtain ⟨cells,h1,h2,h3,h4⟩:=h
 exact ⟨cells,h1,Wt h2 hF fun g hg hs=>(by have:=(h2.lt g hg).1;have:=hS g hs;omega),h3.mono fun cs x hx=>hx.fr hF hS,h4⟩
structure J2 (ga l D0 b:Nat) (rc:Loop) (pre:List (List V)) (W:World):Prop where
 lp:W.heap[l]?=some (.loop rc)
 mark:W.heap[D0]?=some (.deferred (some []))
 out:∃ A c,aL W ga 36 #[.slice A pre.length c]∧eA b W A pre.length c pre
theorem J2.fr {S:Nat→Prop} {ga l D0 b:Nat} {r:Loop} {pre:List (List V)} {w w':World} (h:J2 ga l D0 b r pre w) (hF:Fr S w w') (h1:¬ S l) (h2:¬ S D0) (h3:¬ S ga) (hS:∀ g,S g→g<b):J2 ga l D0 b r pre w':=by
 obtain ⟨A,c,h4,h5⟩:=h.out
 exact ⟨(hF.block l (Array.getElem?_eq_some_iff.1 h.lp).1 h1).trans h.lp,(hF.block D0 (Array.getElem?_eq_some_iff.1 h.mark).1 h2).trans h.mark,A,c,h4.fr hF h3,h5.fr hF hS⟩
theorem Rw {ga l D0 b:Nat} {r bz:Loop} {pre:List (List V)} {x:List V} {wz w8:World} {A':Option Addr} {c' g8 cap8:Nat} {Ay:Option Addr} {n9 cy:Nat} {cellsA:List Value}
 (h1:wz.heap[l]?=some (.loop bz)) (h2:wz.heap[D0]?=some (.deferred (some []))) (hlb:l<b) (hDb:D0<b) (aZ:ga≠l) (zaQ:D0≠l) (hne3:ga≠D0)
 (h3:aL wz ga 36 #[.slice A' pre.length c']) (h4:wz.ownsRow b 28 1 (.slice A' pre.length c') pre.length cellsA) (h5:gJ (iN b) 1 wz cellsA pre) (h6:wz.ownsRow b 85 3 (.slice Ay n9 cy) n9 (aO x))
 (hap:pV cellsA) (yY:∀ v∈cellsA,∀ g,v.ownBlock=some g→(Value.slice Ay n9 cy).ownBlock≠some g) (hg:wz.grownBy w8 (Value.slice A' pre.length c').ownBlock) (h8:w8.ownsRow b 28 1 (.slice (some ⟨g8,0,none⟩) (pre.length+1) cap8) (pre.length+1) (cellsA ++ [.slice Ay n9 cy])) :
 (w8.setCell ⟨ga,0,none⟩ (.slice (some ⟨g8,0,none⟩) (pre.length+1) cap8)).heap[l]?=some (.loop bz)∧
 J2 ga l D0 b r (pre ++ [x]) ((w8.setCell ⟨ga,0,none⟩ (.slice (some ⟨g8,0,none⟩) (pre.length+1) cap8)).putObj l (.loop r))∧
 (∀ S:Nat→Prop,S l→S ga→Fq S b wz ((w8.setCell ⟨ga,0,none⟩ (.slice (some ⟨g8,0,none⟩) (pre.length+1) cap8)).putObj l (.loop r))):=by
 have keep:∀ (k:Nat) (o:Obj),k<b→k≠ga→wz.heap[k]?=some o→(w8.setCell ⟨ga,0,none⟩ (.slice (some ⟨g8,0,none⟩) (pre.length+1) cap8)).heap[k]?=some o:=fun k o hk j2 hko=>by
  have bC:=(Array.getElem?_eq_some_iff.1 hko).1
  refine (Below.heap_setCell w8 ⟨ga,0,none⟩ _ k (fun e=>j2 e)).trans ?_
  refine (hg.block k bC fun e=>?_).trans hko
  have:=(h4.lt k e.symm).1
  omega
 have hl:=keep l _ hlb (Ne.symm aZ) h1
 have hD:=keep D0 _ hDb (Ne.symm hne3) h2
 have V8:=(h3.grown hg (aN h4 h3 (by decide)))
 have bC:=(Array.getElem?_eq_some_iff.1 hl).1
 refine ⟨hl,⟨World.putObj_heap_same bC,(World.putObj_heap_other zaQ).trans hD,some ⟨g8,0,none⟩,cap8,?_,cellsA ++ [.slice Ay n9 cy],by simp,?_,?_,hap.push yY⟩,fun S hS1 hS2=>?_⟩
 ·rw [List.length_append]
  exact (V8.set_ 0 _).putObj aZ
 ·rw [List.length_append]
  exact gO (uS h8 V8 (by decide) 0 _) (fun g hg e=>by have:=(h8.lt g hg).1;omega)
 ·have key:∀ (cs:List Value) (rw_:List V),iN b wz cs rw_→iN b ((w8.setCell ⟨ga,0,none⟩ (.slice (some ⟨g8,0,none⟩) (pre.length+1) cap8)).putObj l (.loop r)) cs rw_:=fun cs rw_ hx=>by
   obtain ⟨B,k1,c1,g1,g2⟩:=(hx.other h4 (by decide) hg).set_ V8 (by decide) 0 (.slice (some ⟨g8,0,none⟩) (pre.length+1) cap8)
   exact ⟨B,k1,c1,g1,gO g2 fun g hg e=>by have:=(g2.lt g hg).1;omega⟩
  refine (h5.mono key).append (gJ.single rfl (fun v hv=>by obtain rfl:=List.mem_singleton.1 hv;rfl) (key _ _ ⟨Ay,n9,cy,rfl,h6⟩))
 ·refine Fq.putObj ?_ hS1
  refine (Fq.of_grown h4 hg).trans ?_
  exact Fq.of_fr ((Fr.refl S w8).setCell (p:=⟨ga,0,none⟩) (.inl hS2) _)
set_option maxRecDepth 100000 in
set_option maxHeartbeats 2000000 in
theorem Qa {w:World} {lab:aP} {v:bI} (h:cW w lab v) (hr:dB v) {n l:Nat} (hn:n<v.most*v.L+1) {Q:List aS} (hc:v.cont n=Q.map fun p=>p.1*v.L+l) (hQ:∀ p∈Q,p∈v.P) (hl:l<v.L) :
 Calls Tryz.prog 66 #[.pointer (some ⟨v.x,0,none⟩),.int .i64 n] w fun e w'=>∃ A c,e=.returned (.slice A Q.length c)∧∃ M,eA M w' A Q.length c (Q.map fun p:aS=>p.2)∧uI w lab w' v M:=by
 have za9:∀ (fn:Fn) (first cap:Array Value) (w:World),(Instr.makeFunc fn first cap).run Tryz.prog w=.ok (.func fn first cap) w:=fun _ _ _ _=>rfl
 have HH:=aA h;have HR:=aA hr;have HC:=aA hc;have HQ:=aA hQ
 have kx:=(aD.alloc w (.cells #[.pointer (some ⟨v.x,0,none⟩)] 88)).alloc' (.cells #[.slice none 0 0] 36)
 have p0:=(aL.new w 88 #[.pointer (some ⟨v.x,0,none⟩)]).ext (aD.alloc _ (.cells #[.slice none 0 0] 36))
 have p1:=aL.new (w.alloc (.cells #[.pointer (some ⟨v.x,0,none⟩)] 88)) 36 #[.slice none 0 0]
 rw [World.size_alloc] at p1
 have Ma:=aA kx;have P0:=aA p0;have P1:=aA p1
 clear h hr hc hQ kx p0 p1
 refine (callsIn_wide (n:=4)).1 ?_
 refine callsIn_of_wp_marks Tryz.func66 rfl trivial ?_ rfl
 refine wpIn_wide.2 ?_
 simp only [Tryz.ntmps66,List.size_toArray,List.length_cons,List.length_nil,Nat.reduceAdd,Nat.reduceSub,Array.replicate_succ,Array.replicate_zero,List.push_toArray,List.append_toArray,List.nil_append,List.cons_append]
 go_upto_region 2 with fail
 generalize (w.alloc (.cells #[.pointer (some ⟨v.x,0,none⟩)] 88)).alloc (.cells #[.slice none 0 0] 36)=w1 at *
 have za8:=aA (Nat.le_succ w.heap.size)
 have Uq:=aA (show w.heap.size+1≠w.heap.size by omega)
 obtain ⟨ga,hgae⟩ : ∃ ga,w.heap.size+1=ga:=⟨_,rfl⟩
 obtain ⟨sb,Dh⟩ : ∃ sb,w.heap.size=sb:=⟨_,rfl⟩
 rw [hgae] at P1 Uq ⊢
 rw [Dh] at P0 Uq ⊢
 have zfo:=aA hgae;have Ww:=aA Dh
 clear hgae Dh za8
 have s0:w1.cell? ⟨sb,0,none⟩=some (.pointer (some ⟨v.x,0,none⟩)):=P0.out.cell 0
 have a10:w1.cell? ⟨v.x,10,none⟩=some (.pointer (some ⟨v.xo,0,none⟩)):=(HH.out.ext Ma.out).str.cell 10
 have HWk:=aA (fun wx=>K5 wx v.xo (n:Int))
 go_wp2_with ((with_reducible refine (HWk.out _).mono ?_);rintro e w5 ⟨gx,gn,rfl,h1,h2,h3,h4,h5,h6⟩;have GX:=aA h1;have GN:=aA h2;have GL:=aA (And.intro h3 (And.intro h4 h5));have X5:=aA h6;clear h1 h2 h3 h4 h5 h6)
 refine (wpIn_wide (n:=4)).1 ?_
 refine Bc (gf:=99) (lb:=#[.pointer (some ⟨gx,0,none⟩),.pointer (some ⟨gn,0,none⟩)]) rfl (enters_of Tryz.func99 (by kernel_rfl) rfl) ?_
 intro fn
 generalize hrec:sO fn _ _ _ _ w5.heap.size=rec
 have mZ:=aA hrec;clear hrec
 obtain ⟨r1,r2,r3,r4⟩:=Ch w5 rec
 generalize (w5.alloc (.deferred (some []))).alloc (.loop rec)=W0 at *
 have R4:=aA r4;have R3:=aA r3
 have zjY:=aA (show w5.heap.size+2=W0.heap.size from r4.symm)
 have HX:=aA ((Ma.out.trans X5.out).trans r3)
 have M0:=aA (HH.out.ext HX.out)
 have xZ:∀ b,lab.dom b→b<w.heap.size:=fun b ⟨i,hi⟩=>HH.out.lt b i hi
 have Pf:=aA xZ
 have s15:=X5.out.size
 have s1:=P1.out.lt
 have zjX:ga<w5.heap.size:=by omega
 have zkT:=Ww.out;have ze9:=zfo.out
 have Oa:=aA (show ga≠w5.heap.size+1∧w5.heap.size≠w5.heap.size+1∧ga≠w5.heap.size∧w5.heap.size+1<W0.heap.size∧w.heap.size≤ga∧w.heap.size<w5.heap.size+1 from ⟨by omega,by omega,by omega,by omega,by omega,by omega⟩)
 have zdP:∀ g,(g=w5.heap.size+1∨g=ga)→g<W0.heap.size∧¬ lab.own 7 g:=fun g hg=>⟨by omega,fun h7=>by have:=xZ g ⟨7,h7⟩;omega⟩
 have zhS:∀ g,(lab.own 7 g∨(g=w5.heap.size+1∨g=ga))→lab.own 7 g∨¬ lab.dom g:=fun g hg=>hg.imp id fun h hd=>by have:=xZ g hd;omega
 have zem:=aA zdP;have Sk:=aA zhS
 have Zq:∀ M,J2 ga (w5.heap.size+1) w5.heap.size M rec [] W0:=fun M=>⟨r1,r2,none,0,(P1.out.ext X5.out).ext r3,eA.nil _ _⟩
 have za4:=aA Zq
 have Yp:(v.cont n).length=Q.length:=by rw [HC.out,List.length_map]
 have zi9:=aA Yp
 have qC:=aA (show Q.length≤1048576 from by
  rw [← Yp]
  have hb:∀ y∈v.cont n,y<v.most*v.L:=fun y hy=>Hq (HH.out.part 7) hy
  have h9:=kP _ _ (Hi (HH.out.part 7) n) hb
  have yQ:=(HH.out.part 7).cm
  omega)
 have zkj:=aA ((P0.out.ext X5.out).ext r3)
 clear xZ zdP zhS Zq Yp r4
 have hY:∀ (M i c:Nat) (w1:World),W0.heap.size≤M→M≤w1.heap.size→(v.cont n)[i]?=some c→J2 ga (w5.heap.size+1) w5.heap.size M rec ((Q.map fun p:aS=>p.2).take i) w1→Fq (fun g=>lab.own 7 g∨(g=w5.heap.size+1∨g=ga)) W0.heap.size W0 w1→(∃ B',rU w1 B' v.xo (v.most*v.L) (v.most*v.L+1) v.cont∧∀ b,B' b→(lab.own 7 b∨W0.heap.size≤b)∧b<M)→
  ∃ fn tmps assign body,(Instr.yield (w5.heap.size+1) #[.int .i64 c]).run Tryz.prog w1=.ok (.round (w5.heap.size+1) fn tmps assign body) w1∧
   RoundIn Fence.wide 0 Tryz.prog (w5.heap.size+1) fn tmps assign body w1 fun e w'=>Fq (fun g=>g=w5.heap.size+1∨g=ga) W0.heap.size w1 w'∧e=.returned (.bool true)∧J2 ga (w5.heap.size+1) w5.heap.size M rec ((Q.map fun p:aS=>p.2).take (i+1)) w':=by
  intro M i c wy Jl hM2 Tb hj hF _
  refine I0 hj.lp ?_ ?_ ?_ trivial ?_
  ·rw [← mZ.out];rfl
  ·rw [← mZ.out];rfl
  ·rw [← mZ.out];rfl
  ·have HJ:=aA hj;have HFy:=aA hF
   obtain ⟨q,hq,hqc⟩ : ∃ q,Q[i]?=some q∧q.1*v.L+l=c:=by
    rw [HC.out,List.getElem?_map] at Tb
    exact Option.map_eq_some_iff.1 Tb
   obtain ⟨s,r⟩:=q
   dsimp only at hqc
   have zhR:=aA hq;have zkl:=aA hqc
   clear hj hF Tb hq hqc
   have hA:=congrArg Loop.assign mZ.out
   have hB:=congrArg Loop.body mZ.out
   have hT:=congrArg Loop.tmps mZ.out
   have hP:=congrArg Loop.params mZ.out
   dsimp only [sO] at hA hB hT hP
   generalize hbz:({rec with state:=.busy}:Loop)=bz
   rw [← hA,← hB,← hT,← hP]
   have zfC:=aA hbz
   clear hA hB hT hP hbz
   gi_wp2_with fail
   refine ⟨HJ.out.lp,?_⟩
   obtain ⟨A',c',hblk,cellsA,hn9,ho9,zfB,hap9⟩:=HJ.out.out
   have zw:=aA hap9
   clear hap9
   have nB:=Oa.out
   have b3:=aA (hblk.putObj (l:=w5.heap.size+1) (o:=.loop bz) nB.1)
   have ho':=aA (gO (l:=w5.heap.size+1) (o:=.loop bz) ho9 (fun g hg=>by have:=(ho9.lt g hg).1;omega))
   have zco:=aA (zfB.mono (w':=wy.putObj (w5.heap.size+1) (.loop bz)) (R':=iN M) fun cs r hr=>by
    obtain ⟨B,k1,c1,g1,g2⟩:=hr
    exact ⟨B,k1,c1,g1,gO g2 fun g hg=>by have:=(g2.lt g hg).1;omega⟩)
   have bC:=(Array.getElem?_eq_some_iff.1 HJ.out.lp).1
   have zes:=aA (show (wy.putObj (w5.heap.size+1) (.loop bz)).heap[w5.heap.size+1]?=some (.loop bz) from World.putObj_heap_same bC)
   have zgl:=aA (show (wy.putObj (w5.heap.size+1) (.loop bz)).heap[w5.heap.size]?=some (.deferred (some [])) from (World.putObj_heap_other nB.2.1).trans HJ.out.mark)
   have HFz:=aA (HFy.out.putObj (l:=w5.heap.size+1) (o:=.loop bz) (.inr (.inl rfl)))
   have zj3:=aA ((Fq.of_ext (S:=fun g=>g=w5.heap.size+1∨g=ga) (base:=W0.heap.size) (aD.refl wy)).putObj (l:=w5.heap.size+1) (o:=.loop bz) (.inl rfl))
   have zhf:=aA (show aL (wy.putObj (w5.heap.size+1) (.loop bz)) sb 88 #[.pointer (some ⟨v.x,0,none⟩)] from zkj.out.fq HFz.out (fun h=>by
    have hs:=Ww.out
    rcases h with h | h | h
    ·have:=Pf.out sb ⟨7,h⟩;omega
    ·omega
    ·exact Uq.out h.symm) (.inr (by decide)))
   have Dk:(List.take i (Q.map fun p:aS=>p.2)).length≤1048576:=by rw [List.length_take,List.length_map];have:=qC.out;omega
   have zkq:M≤(wy.putObj (w5.heap.size+1) (.loop bz)).heap.size:=by simpa using hM2
   have zhw:=aA (show w5.heap.size+1<M∧w5.heap.size<M by omega)
   have Zb:=aA Jl
   clear hblk ho9 zfB nB bC HFy hM2 Jl
   generalize wy.putObj (w5.heap.size+1) (.loop bz)=wz at *
   have c0:wz.cell? ⟨ga,0,none⟩=some (.slice A' (List.take i (Q.map fun p:aS=>p.2)).length c'):=b3.out.cell 0
   have s0:wz.cell? ⟨sb,0,none⟩=some (.pointer (some ⟨v.x,0,none⟩)):=zhf.out.cell 0
   have zcj:=M0.out.rdChg HFz.out.chg Sk.out
   have zgB:=fun (wa:World) (hx:aD wz wa)=>wD (zcj.ext hx) HR.out (s:=s) (l:=l) (r:=r) (HQ.out _ (List.mem_of_getElem? zhR.out)) hl
   rw [zkl.out] at zgB
   have ρ:=aA zgB
   have zic:=aA zkq
   obtain ⟨i0,eQ,hz0,hz1,eO⟩:=info_parts tU
   clear zcj zgB
   generalize hpre:List.take i (Q.map fun p:aS=>p.2)=pre at *
   have zfK:=aA hpre
   clear hpre
   gi_wp2_with fail
   have c0:=aB c0;have s0:=aB s0
   refine yN 5 (by kernel_rfl) (by kernel_rfl) (fun _ _ hq=>hq) (by kernel_rfl) (by kernel_rfl) ?_
   iterate 3
    refine aK (by kernel_rfl) (by kernel_rfl) ?_
    apply Exists.intro
    refine ⟨fun w1 aT=>?_,fun K hK=>?_⟩
    ·go_simp;first | done | rfl
    go_simp;refine hK _ _ ?_;clear hK K
   refine cU [] (fun u w1=>∃ Ay cy,u=.slice Ay r.length cy∧w1.ownsRow wz.heap.size 85 3 (.slice Ay r.length cy) r.length (aO r)) (fun u w1 w2 _ h2 ⟨Ay,cy,h3,h4⟩=>⟨Ay,cy,h3,dX h4 h2⟩) rfl (by kernel_rfl) (fun w1 aT=>?_) ?_
   ·simp only [cN]
    go_simp
    refine ⟨aD.refl _,(ρ.out w1 aT).mono fun e w' hR=>?_⟩
    obtain ⟨A,c,he,ho,hE⟩:=hR
    exact ⟨_,he,hE,A,c,rfl,dI ho aT.size⟩
   refine cU [17] (fun u w1=>∃ gb Ay cy,u=.slice (some ⟨gb,0,none⟩) 1 1∧aL w1 gb 28 #[.slice Ay r.length cy]∧w1.ownsRow wz.heap.size 85 3 (.slice Ay r.length cy) r.length (aO r)) (fun u w1 w2 _ h2 ⟨gb,Ay,cy,h3,h4,h5⟩=>⟨gb,Ay,cy,h3,h4.ext h2,dX h5 h2⟩) rfl (by kernel_rfl) (fun w1 aT=>?_) ?_
   ·simp only [cN]
    intro u hu
    obtain ⟨Ay,cy,rfl,ho⟩:=hu _ rfl
    clear hu
    go_simp
    exact ⟨aD.alloc _ _,Ay,cy,aL.new _ _ _,dX ho (aD.alloc _ _)⟩
   refine aH ⟨rfl,by kernel_rfl,fun w3 hw3=>?_⟩
   simp only [bL]
   rintro _ ⟨gb,Ay,cy,rfl,hBb,hO3⟩ u17 _
   simp only [List.drop]
   have Sb:=aA (show ∀ v∈cellsA,∀ g,v.ownBlock=some g→(Value.slice Ay r.length cy).ownBlock≠some g from fun v hv g hg e=>by have h1:=zbF zco.out v hv g hg;have h2:=(hO3.lt g e).1;omega)
   have zcg:=aA hBb;have zfz:=aA (dI hO3 zic.out);have To:=aA hw3
   clear hBb hO3 hw3 c0 s0
   have Me:=aA (Nat.le_trans zic.out To.out.size)
   go_wp2_with (at_builtin;refine wpList_append_own _ rfl _ _ 36 rfl M 28 i0 _ 1 24 Tryz.underlying36 eQ hz0 hz1 eO rfl (by decide) _ _ _ rfl (dX ho'.out To.out) ⟨gb,0,none⟩ 1 1 [.slice Ay r.length cy] rfl rfl (blk_one' zcg.out) (by simp [Value.oneCell']) (by unfold maxLen;omega) (by omega) Me.out ?_;intro v8 w8 own8 G8 _;obtain ⟨g8,cap8,rfl⟩:=ownsRow_succ own8;have V8:=aA ((b3.out.ext To.out).grown G8 (aN (dX ho'.out To.out) (b3.out.ext To.out) (by decide)));have v8:=V8.out.cell 0;have f8:=V8.out.frozen 0;have Gc:=aA own8;have zjM:=aA G8;clear own8 G8)
   have nB:=Oa.out
   have xU:∀ (k:Nat) (o:Obj),wz.heap[k]?=some o→w3.heap[k]?=some o:=fun k o hk=>(To.out.block (Array.getElem?_eq_some_iff.1 hk).1).trans hk
   have zcH:=Rw (ga:=ga) (l:=w5.heap.size+1) (D0:=w5.heap.size) (b:=M) (r:=rec) (x:=r) (xU _ _ zes.out) (xU _ _ zgl.out) zhw.out.1 zhw.out.2 nB.1 nB.2.1 nB.2.2.1 (b3.out.ext To.out) (dX ho'.out To.out) (zco.out.mono fun cs x hx=>iN.stab _ _ _ _ _ To.out hx) zfz.out zw.out Sb.out zjM.out Gc.out
   have sB:List.take (i+1) (Q.map fun p:aS=>p.2)=pre ++ [r]:=by rw [List.take_add_one,List.getElem?_map,zhR.out,← zfK.out];rfl
   refine ⟨by rw [zfC.out];exact zcH.1,(zj3.out.trans (Fq.of_ext To.out)).trans ((zcH.2.2 _ (.inl rfl) (.inr rfl)).base Zb.out),rfl,?_⟩
   rw [sB]
   exact zcH.2.1
 have HY:=aA hY;clear hY
 have ziq:aL W0 gx 128 #[.pointer (some ⟨v.xo,0,none⟩)]:=GX.out.ext R3.out
 have ziB:aL W0 gn 3 #[.int .i64 n]:=GN.out.ext R3.out
 have nD:=GL.out
 have gH:=Sf (M0.out.part 7) hn (w5.heap.size+1) gx gn ziq ziB
  ⟨fun h=>by have h1:=Pf.out gx ⟨7,h⟩;have h2:=Ma.out.size;omega,fun h=>by have h1:=Pf.out gn ⟨7,h⟩;have h2:=Ma.out.size;omega⟩ zem.out
  (fun M i W=>J2 ga (w5.heap.size+1) w5.heap.size M rec ((Q.map fun p:aS=>p.2).take i) W)
  (fun M w1 Jl hM2 hc=>by
   have nB:=Oa.out
   exact (za4.out M).fr (S:=lab.own 7) ⟨hc.os,hc.tape,hc.output,hc.size,fun k h1 h2=>hc.block k h1 h2⟩ (fun h=>by have:=Pf.out _ ⟨7,h⟩;omega) (fun h=>by have:=Pf.out _ ⟨7,h⟩;have:=X5.out.size;have:=Ma.out.size;omega) (fun h=>by have:=Pf.out _ ⟨7,h⟩;omega) (fun g h=>by have:=Pf.out _ ⟨7,h⟩;omega))
  HY.out
 clear ziq ziB
 refine callsIn_wide.2 (gH.mono ?_)
 clear gH
 rintro e W2 ⟨M,rfl,Jl,hM2,hj,hFq,B',hB1,hB2⟩
 have ze3:=aA (And.intro Jl hM2)
 rw [zi9.out,List.take_of_length_le (by rw [List.length_map];exact Nat.le_refl _)] at hj
 have zaz:=aA hj;have zfc:=aA hFq;have HB:=aA (And.intro hB1 hB2)
 clear hj hFq hB1 hB2 Jl hM2
 have Ex:rec.pending=none:=by rw [← mZ.out];rfl
 have En:rec.state≠.busy:=by rw [← mZ.out];simp [sO]
 refine rK zaz.out.lp En ?_
 generalize ({rec with state:=.exhausted}:Loop)=ex
 rw [Ex]
 simp only [Exit.inBlock,Exit.then]
 obtain ⟨A',c',hblk,hmine⟩:=zaz.out.out
 have nB:=Oa.out
 have p1:=aA (hblk.putObj (l:=w5.heap.size+1) (o:=.loop ex) nB.1)
 have Xv:=aA (show (W2.putObj (w5.heap.size+1) (.loop ex)).heap[w5.heap.size]?=some (.deferred (some [])) from (World.putObj_heap_other nB.2.1).trans zaz.out.mark)
 have zjO:=aA (show M≤(W2.putObj (w5.heap.size+1) (.loop ex)).heap.size from by have:=ze3.out.2;simpa using this)
 have hmine':=aA (show eA M (W2.putObj (w5.heap.size+1) (.loop ex)) A' (Q.map fun p:aS=>p.2).length c' (Q.map fun p:aS=>p.2) from by
  obtain ⟨cells,g1,g2,g3,g4⟩:=hmine
  refine ⟨cells,g1,gO g2 (fun g hg=>by have:=(g2.lt g hg).1;have:=ze3.out.1;omega),g3.mono fun cs x hx=>?_,g4⟩
  obtain ⟨Bx,k1,c1,y1,y2⟩:=hx
  exact ⟨Bx,k1,c1,y1,gO y2 fun g hg=>by have:=(y2.lt g hg).1;have:=ze3.out.1;omega⟩)
 have za5:=aA (zfc.out.putObj (l:=w5.heap.size+1) (o:=.loop ex) (.inr (.inl rfl)))
 have yS:=aA (show rU (W2.putObj (w5.heap.size+1) (.loop ex)) B' v.xo (v.most*v.L) (v.most*v.L+1) v.cont from HB.out.1.fq (S:=fun g=>g=w5.heap.size+1) (base:=(W2.putObj (w5.heap.size+1) (.loop ex)).heap.size) (Fq.putObj (Fq.of_ext (aD.refl W2)) rfl) (fun g hg e=>by
  subst e
  rcases (HB.out.2 _ hg).1 with h | h
  ·have:=Pf.out _ ⟨7,h⟩;omega
  ·omega))
 clear hblk hmine nB
 generalize W2.putObj (w5.heap.size+1) (.loop ex)=W3 at *
 have g0:W3.cell? ⟨ga,0,none⟩=some (.slice A' (Q.map fun p:aS=>p.2).length c'):=p1.out.cell 0
 go_wp2_with fail
 refine ⟨by simp,.inl ⟨w5.heap.size,_,rfl,run_takeDeferred Xv.out,?_⟩⟩
 have nB:=Oa.out
 have zcN:Fq (fun g=>lab.own 7 g∨(g=w5.heap.size+1∨g=ga)∨g=w5.heap.size) W0.heap.size W0 (W3.putObj w5.heap.size (.deferred none)):=(za5.out.mono fun g hg=>hg.imp id .inl).putObj (.inr (.inr rfl))
 have ww:rU (W3.putObj w5.heap.size (.deferred none)) B' v.xo (v.most*v.L) (v.most*v.L+1) v.cont:=yS.out.fq (S:=fun g=>g=w5.heap.size) (base:=W3.heap.size) (Fq.putObj (Fq.of_ext (aD.refl W3)) rfl) (fun g hg e=>by
  subst e
  rcases (HB.out.2 _ hg).1 with h | h
  ·have:=Pf.out _ ⟨7,h⟩;omega
  ·omega)
 obtain ⟨cells,g1,g2,g3,g4⟩:=hmine'.out
 have Ej:(Q.map fun p:aS=>p.2).length=Q.length:=List.length_map ..
 have Vl:=Ww.out
 have Jl:=ze3.out.1
 have xQ:eA M (W3.putObj w5.heap.size (.deferred none)) A' Q.length c' (Q.map fun p:aS=>p.2):=by
  rw [Ej] at g2
  refine ⟨cells,Ej.symm,gO g2 (fun g hg=>by have:=(g2.lt g hg).1;omega),g3.mono fun cs x hx=>?_,g4⟩
  obtain ⟨Bx,k1,c1,y1,y2⟩:=hx
  exact ⟨Bx,k1,c1,y1,gO y2 fun g hg=>by have:=(y2.lt g hg).1;omega⟩
 obtain ⟨lab',hM',hD'⟩:=M0.out.chgTo 7 (B':=B') (fun b hb=>(HB.out.2 b hb).1) ww.lt zcN.chg (fun g hg=>hg.imp id fun h hd=>by have:=Pf.out g hd;omega) ww
 have zkJ:=HX.out.size
 refine ⟨.slice A' Q.length c',?_,A',c',rfl,M,xQ,lab',hM',fun b hb=>(hD' b hb).imp id fun h=>by have:=h.1;omega,?_,fun b hb=>?_,by omega,by have:=zjO.out;simpa using this⟩
 ·simp [results,Tryz.results66,go_sem]
 ·have hc:=(aF.of HX.out (B:=lab.dom)).trans zcN.chg fun g hg hl=>?_
  ·exact hc
  ·rcases hg with h | h
   ·exact ⟨7,h⟩
   ·omega
 ·rcases hD' b hb with h | h
  ·have:=Pf.out b h;omega
  ·exact (HB.out.2 b h.2).2
set_option maxRecDepth 100000 in
set_option maxHeartbeats 2000000 in
theorem Rz {w:World} {lab:aP} {v:bI} (h:cW w lab v) :
 Calls Tryz.prog 66 #[.pointer (some ⟨v.x,0,none⟩),.int .i64 (-1)] w fun e w'=>e=.returned (.slice none 0 0)∧fK w lab w' v:=by
 have za9:∀ (fn:Fn) (first cap:Array Value) (w:World),(Instr.makeFunc fn first cap).run Tryz.prog w=.ok (.func fn first cap) w:=fun _ _ _ _=>rfl
 have HH:=aA h
 have kx:=(aD.alloc w (.cells #[.pointer (some ⟨v.x,0,none⟩)] 88)).alloc' (.cells #[.slice none 0 0] 36)
 have p0:=(aL.new w 88 #[.pointer (some ⟨v.x,0,none⟩)]).ext (aD.alloc _ (.cells #[.slice none 0 0] 36))
 have p1:=aL.new (w.alloc (.cells #[.pointer (some ⟨v.x,0,none⟩)] 88)) 36 #[.slice none 0 0]
 rw [World.size_alloc] at p1
 have Ma:=aA kx;have P0:=aA p0;have P1:=aA p1
 clear h kx p0 p1
 refine (callsIn_wide (n:=4)).1 ?_
 refine callsIn_of_wp_marks Tryz.func66 rfl trivial ?_ rfl
 refine wpIn_wide.2 ?_
 simp only [Tryz.ntmps66,List.size_toArray,List.length_cons,List.length_nil,Nat.reduceAdd,Nat.reduceSub,Array.replicate_succ,Array.replicate_zero,List.push_toArray,List.append_toArray,List.nil_append,List.cons_append]
 go_upto_region 2 with fail
 generalize (w.alloc (.cells #[.pointer (some ⟨v.x,0,none⟩)] 88)).alloc (.cells #[.slice none 0 0] 36)=w1 at *
 have za8:=aA (Nat.le_succ w.heap.size)
 have Uq:=aA (show w.heap.size+1≠w.heap.size by omega)
 obtain ⟨ga,hgae⟩ : ∃ ga,w.heap.size+1=ga:=⟨_,rfl⟩
 obtain ⟨sb,Dh⟩ : ∃ sb,w.heap.size=sb:=⟨_,rfl⟩
 rw [hgae] at P1 Uq ⊢
 rw [Dh] at P0 Uq ⊢
 have zfo:=aA hgae;have Ww:=aA Dh
 clear hgae Dh za8
 have s0:w1.cell? ⟨sb,0,none⟩=some (.pointer (some ⟨v.x,0,none⟩)):=P0.out.cell 0
 have a10:w1.cell? ⟨v.x,10,none⟩=some (.pointer (some ⟨v.xo,0,none⟩)):=(HH.out.ext Ma.out).str.cell 10
 have HWk:=aA (fun wx=>K5 wx v.xo (-1))
 go_wp2_with ((with_reducible refine (HWk.out _).mono ?_);rintro e w5 ⟨gx,gn,rfl,h1,h2,h3,h4,h5,h6⟩;have GX:=aA h1;have GN:=aA h2;have GL:=aA (And.intro h3 (And.intro h4 h5));have X5:=aA h6;clear h1 h2 h3 h4 h5 h6)
 refine (wpIn_wide (n:=4)).1 ?_
 refine Bc (gf:=99) (lb:=#[.pointer (some ⟨gx,0,none⟩),.pointer (some ⟨gn,0,none⟩)]) rfl (enters_of Tryz.func99 (by kernel_rfl) rfl) ?_
 intro fn
 generalize hrec:sO fn _ _ _ _ w5.heap.size=rec
 have mZ:=aA hrec;clear hrec
 obtain ⟨r1,r2,r3,r4⟩:=Ch w5 rec
 generalize (w5.alloc (.deferred (some []))).alloc (.loop rec)=W0 at *
 have R3:=aA r3
 have HX:=aA ((Ma.out.trans X5.out).trans r3)
 have pZ:=(Array.getElem?_eq_some_iff.1 r1).1
 have F9:=(Array.getElem?_eq_some_iff.1 r2).1
 have zch:ga<w5.heap.size:=by have:=P1.out.lt;have:=X5.out.size;omega
 have R1:=aA r1;have R2:=aA r2;have HN:=aA (And.intro zch (And.intro pZ F9))
 have BG:=aA ((P1.out.ext X5.out).ext r3)
 clear r1 r2 r3 r4 zch pZ F9
 have gH:=Vb (w5.heap.size+1) v.xo gx gn (GX.out.ext R3.out) (GN.out.ext R3.out)
 refine callsIn_wide.2 (gH.mono ?_)
 clear gH
 rintro e W2 ⟨rfl,rfl⟩
 have Ex:rec.pending=none:=by rw [← mZ.out];rfl
 have En:rec.state≠.busy:=by rw [← mZ.out];simp [sO]
 refine rK R1.out En ?_
 generalize ({rec with state:=.exhausted}:Loop)=ex
 rw [Ex]
 simp only [Exit.inBlock,Exit.then]
 have nB:=HN.out
 have p1:=aA (BG.out.putObj (l:=w5.heap.size+1) (o:=.loop ex) (by omega))
 have Xv:=aA (show (W2.putObj (w5.heap.size+1) (.loop ex)).heap[w5.heap.size]?=some (.deferred (some [])) from (World.putObj_heap_other (by omega)).trans R2.out)
 have za5:=aA (Fq.putObj (S:=fun g=>g=w5.heap.size+1∨g=w5.heap.size) (base:=W2.heap.size) (l:=w5.heap.size+1) (o:=.loop ex) (Fq.of_ext (aD.refl W2)) (.inl rfl))
 clear nB
 generalize W2.putObj (w5.heap.size+1) (.loop ex)=W3 at *
 have g0:W3.cell? ⟨ga,0,none⟩=some (.slice none 0 0):=p1.out.cell 0
 go_wp2_with fail
 refine ⟨by simp,.inl ⟨w5.heap.size,_,rfl,run_takeDeferred Xv.out,?_⟩⟩
 have zcN:=(za5.out.putObj (l:=w5.heap.size) (o:=.deferred none) (.inr rfl)).chg
 have Vl:=Ww.out
 have zkH:=X5.out.size
 have zkA:=Ma.out.size
 have zkD:=HH.out.ext HX.out
 have jP:∀ g,lab.dom g→¬ (g=w5.heap.size+1∨g=w5.heap.size):=fun g ⟨i,hi⟩ h=>by have:=HH.out.lt g i hi;omega
 refine ⟨.slice none 0 0,by simp [results,Tryz.results66,go_sem],rfl,lab,zkD.chg zcN jP,fun b hb=>.inl hb,(aF.of HX.out (B:=lab.dom)).trans zcN fun g hg hl=>by omega⟩
end Go.Proofs.YtahdiiaadjdmcaaGreat
namespace Go.Proofs.YtahdiiaadjdmcaaGreat
open Go.RowKit
theorem vT {w w':World} {lab:aP} {v':bI} (h:fK w lab w' v'):∃ lab',cW w' lab' v'∧eU w lab w' lab':=by
 obtain ⟨lab',h1,h2,h3⟩:=h
 exact ⟨lab',h1,h2,h3⟩
def gY (S:aY) (k:Nat) (key:List V):List (List V):=match S.gs[k]? with
 | none=>[]
 | some g=>S.rows.filter fun r=>bP (aE g r) key
def Db (w:World) (B:Nat→Prop) (x:Nat) (S:aY) (N:Nat) (w':World) (M:Nat):Prop:=
 ∃ B',kK w' B' x S N∧(∀ b,B' b→B b∨w.heap.size≤b)∧(∀ b,B' b→b<M)∧aF B w w'∧w.heap.size≤M∧M≤w'.heap.size
theorem Db.of {w w':World} {B:Nat→Prop} {x:Nat} {S:aY} {N M:Nat} {lab:aP} {v':bI} {D:Nat→List (List V × Nat)} {P0:List aS} {F0:List Nat} (hB:∀ b,lab.dom b→B b) (h:uI w lab w' v' M) (he:zE S x v' P0) (ho:jS v' D N P0 F0):Db w B x S N w' M:=by
 obtain ⟨lab',h1,h2,h3,h4,h5,h6⟩:=h
 exact ⟨lab'.dom,⟨lab',v',D,P0,F0,h1,fun b hb=>hb,he,ho⟩,fun b hb=>(h2 b hb).imp (hB b) id,h4,h3.mono fun g hg _=>hB g hg,h5,h6⟩
theorem uI.tick0 {w w':World} {lab:aP} {v:bI} {M:Nat} (h:uI w lab w' v M):uI w lab w' (v.tick 0) M:=by
 obtain ⟨lab',h1,h2⟩:=h
 exact ⟨lab',h1.tick 0,h2⟩
theorem uI.none {w w':World} {lab:aP} {v:bI} (h:fK w lab w' v):uI w lab w' v w'.heap.size:=by
 obtain ⟨lab',h1,h2,h3⟩:=h
 exact ⟨lab',h1,h2,h3,fun b ⟨i,hi⟩=>h1.lt b i hi,h3.size,Nat.le_refl _⟩
theorem uI.pre {w w1 w':World} {lab lab1:aP} {v':bI} {M:Nat} (hs:eU w lab w1 lab1) (h:uI w1 lab1 w' v' M):uI w lab w' v' M:=by
 obtain ⟨lab',h1,h2,h3,h4,h5,h6⟩:=h
 have fI:=bB hs ⟨h2,h3⟩
 exact ⟨lab',h1,fI.1,fI.2,h4,Nat.le_trans hs.2.size h5,h6⟩
set_option maxRecDepth 100000 in
theorem Xh {w:World} {B:Nat→Prop} {x:Nat} {S:aY} {N:Nat} (h:kK w B x S N) :
 Calls Tryz.prog 37 #[.pointer (some ⟨x,0,none⟩)] w fun e w'=>∃ A c M,e=.returned (.slice A S.rows.length c)∧eA M w' A S.rows.length c S.rows∧Db w B x S (N+1) w' M:=by
 obtain ⟨lab,v,D,P0,F0,h1,h2,h3,h4⟩:=h
 have HRw:=aA (show Calls Tryz.prog 66 #[.pointer (some ⟨v.x,0,none⟩),.int .i64 0] w (fun e w'=>∃ A c,e=.returned (.slice A v.P.length c)∧∃ M,eA M w' A v.P.length c (v.P.map fun p:aS=>p.2)∧uI w lab w' v M) from Qa h1 h4.row (n:=0) (l:=0) (by omega) (Q:=v.P) (by rw [h4.lan.c0];rfl) (fun p hp=>hp) (by unfold bI.L;omega))
 rw [h3.x] at HRw
 have e1:v.P.length=S.rows.length:=by rw [h3.rows,List.length_map]
 have e2:(v.P.map fun p:aS=>p.2)=S.rows:=h3.rows.symm
 rw [e1,e2] at HRw
 have H2:=aA h2;have H3:=aA h3;have H4:=aA h4
 clear h1 h2 h3 h4 e1 e2
 go_enter Tryz.func37,Tryz.ntmps37
 go_wp2_with ((with_reducible refine HRw.out.mono ?_);rintro e w2 ⟨A,c,rfl,M,h5,h6⟩;have M2:=aA h5;have S2:=aA h6;clear h5 h6)
 go_ret
 exact ⟨A,c,M,rfl,M2.out,Db.of H2.out S2.out.tick0 (H3.out.tick 0) (H4.out.tick 0 1 (by omega) (Nat.le_refl _))⟩
set_option maxRecDepth 100000 in
theorem qX {w:World} {lab:aP} {v:bI} (h:cW w lab v) {k:Nat} (hk:k<v.gs.length) :
 Calls Tryz.prog 89 #[.pointer (some ⟨v.x,0,none⟩),.int .i64 k] w fun e w'=>e=.returned (.bool false)∧w'=w:=by
 have a3:w.cell? ⟨v.x,3,none⟩=some (.slice v.GA v.gs.length v.cG):=h.str.cell 3
 have h1:¬ (k:Int)<0:=by omega
 have h2:(k:Int)<(v.gs.length:Int):=by omega
 clear h
 generalize v.gs.length=m at *
 go_enter Tryz.func89,Tryz.ntmps89
 go_wp2_with fail
 go_ret
 exact ⟨by simp;omega,rfl⟩
def qN (_v:bI) (D:Nat→List (List V × Nat)) (k:Nat) (key:List V):Option Nat→Prop
 | none=>key∉(D k).map (·.1)
 | some n=>(key,n)∈D k
theorem Rq {w:World} {lab:aP} {v:bI} {D:Nat→List (List V × Nat)} {N:Nat} {P0:List aS} {F0:List Nat} (h:cW w lab v) (ho:jS v D N P0 F0) (hN:N≤8796093022208) {k:Nat} {g:List Nat} (hg:v.gs[k]?=some g) {r:List V} {A:Option Addr} {n:Nat} (c:Nat) (ha:bD w A n r) :
 Calls Tryz.prog 90 #[.pointer (some ⟨v.x,0,none⟩),.int .i64 k,.slice A n c] w fun e w'=>∃ o:Option Nat,qN v D k r o∧e=.returned (.int .i64 (oi o))∧fK w lab w' (v.tick 1):=by
 have hK:=ho.K
 have Ya:=mD hN
 have hk:=zG hg
 have fC:=ho.lan.lane k g hg
 have sG:=ho.row.keys hg fC ho.row.rows
 have nD:=(ho.row.gs g (List.mem_of_getElem? hg)).1
 obtain ⟨xk,hxk⟩ : ∃ xk,v.gx[k]?=some xk:=⟨_,List.getElem?_eq_getElem (by rw [ho.row.gx];exact hk)⟩
 refine (oH h (by omega) hg (by omega) hxk c ha (by have:=vD r;omega)).mono ?_
 rintro e w' ⟨o,h1,rfl,h3⟩
 unfold lB at h1
 by_cases qA:r.length=g.length∧cQ r=true
 ·rw [if_pos qA] at h1
  have j2:nP g r:=⟨qA.1,qA.2,ha.small,ha.wf⟩
  cases o with
  |none=>
   refine ⟨none,fun hm=>?_,rfl,h3⟩
   obtain ⟨⟨key,q⟩,hd,e⟩:=List.mem_map.1 hm
   dsimp only at e
   subst e
   exact h1.2 rfl q ((fC.entry sG j2).2 ⟨q,hd,rfl⟩)
  |some z=>
   obtain ⟨q,hq,rfl⟩:=(fC.entry sG j2).1 (h1.1 z rfl)
   exact ⟨some q,hq,rfl,h3⟩
 ·rw [if_neg qA] at h1
  subst h1
  refine ⟨none,fun hm=>?_,rfl,h3⟩
  obtain ⟨d,hd,e⟩:=List.mem_map.1 hm
  have:=sG d hd
  rw [e] at this
  exact qA ⟨this.len,this.ok⟩
theorem Ge {S:aY} {x:Nat} {v:bI} {P0:List aS} (h:zE S x v P0) {k:Nat} {g:List Nat} (hg:v.gs[k]?=some g) (key:List V):gY S k key=(v.P.filter fun p=>bP (aE g p.2) key).map (·.2):=by
 unfold gY
 rw [h.gs,hg,h.rows]
 simp only
 rw [List.filter_map]
 rfl
open Classical in
theorem Gj (L k:Nat) (g:List Nat) (P:List aS) (key:List V):eS L k g P key=(P.filter fun p=>bP (aE g p.2) key).map fun p=>p.1*L+(k+1):=by
 unfold eS
 congr 1
 refine List.filter_congr fun p _=>?_
 rw [Bool.eq_iff_iff,decide_eq_true_eq,cP]
theorem Rj {v:bI} {D:Nat→List (List V × Nat)} {N:Nat} {P0:List aS} {F0:List Nat} (ho:jS v D N P0 F0) {k:Nat} {g:List Nat} (hg:v.gs[k]?=some g) {key:List V} (h:key∉(D k).map (·.1)):(v.P.filter fun p=>bP (aE g p.2) key)=[]:=by
 refine List.filter_eq_nil_iff.2 fun p hp he=>h ?_
 exact ((ho.lan.lane k g hg).mem key).2 ⟨p,hp,cP.1 he⟩
theorem V7 {w:World} {lab:aP} {v:bI} {D:Nat→List (List V × Nat)} {N:Nat} {P0:List aS} {F0:List Nat} (h:cW w lab v) (ho:jS v D N P0 F0) {k n:Nat} {key:List V} (hk:k<v.gs.length) (hd:(key,n)∈D k):n<v.most*v.L+1:=by
 have Vm:=ho.lan.lists k _ hk hd
 have h2:=xE Vm.2.1
 have h3:=(h.part 5).ok.len
 dsimp only at h2
 omega
set_option maxRecDepth 100000 in
theorem wK {w:World} {B:Nat→Prop} {x:Nat} {S:aY} {N:Nat} (h:kK w B x S N) (hN:N≤8796093022208) {k:Nat} (hk:k<S.gs.length) {r:List V} {A:Option Addr} {n:Nat} (c:Nat) (ha:bD w A n r) :
 Calls Tryz.prog 74 #[.pointer (some ⟨x,0,none⟩),.int .i64 k,.slice A n c] w fun e w'=>∃ A' c',e=.returned (.tuple #[.slice A' (gY S k r).length c',.int .i64 0])∧∃ M,eA M w' A' (gY S k r).length c' (gY S k r)∧Db w B x S (N+1) w' M:=by
 obtain ⟨lab,v,D,P0,F0,h1,h2,h3,h4⟩:=h
 have hk':k<v.gs.length:=by rw [← h3.gs];exact hk
 obtain ⟨g,hg⟩ : ∃ g,v.gs[k]?=some g:=⟨_,List.getElem?_eq_getElem hk'⟩
 have HN:=aA (qX h1 hk')
 have HL:=aA (Rq h1 h4 hN hg c ha)
 have hT:=h4.tick 1 1 (by omega) (Nat.le_refl _)
 have sR:=Ge h3 hg r
 have wT:=fun h=>Rj (key:=r) h4 hg h
 have zcU:(v.P.filter fun p=>bP (aE g p.2) r).length=(gY S k r).length:=by rw [sR,List.length_map]
 have zkf:=aA (fun (w2:World) (lab2:aP) (m2:cW w2 lab2 (v.tick 1)) (o:Option Nat) (hd:qN v D k r o)=>
  show Calls Tryz.prog 66 #[.pointer (some ⟨x,0,none⟩),.int .i64 (oi o)] w2 (fun e w'=>∃ A' c',e=.returned (.slice A' (gY S k r).length c')∧∃ M,eA M w' A' (gY S k r).length c' (gY S k r)∧uI w2 lab2 w' (v.tick 1) M) from by
   cases o with
   |none=>
    have h9:=wT hd
    have yQ:gY S k r=[]:=by rw [sR,h9];rfl
    have Cr:=Rz m2
    rw [show (v.tick 1).x=v.x from rfl,h3.x] at Cr
    refine Cr.mono ?_
    rintro e w' ⟨rfl,h12⟩
    rw [yQ]
    exact ⟨none,0,rfl,_,eA.nil _ _,uI.none h12⟩
   |some q=>
    have Cr:=Qa m2 hT.row (n:=q) (l:=k+1) (V7 h1 h4 hk' hd) (Q:=v.P.filter fun p=>bP (aE g p.2) r) (by
     have h9:=(h4.lan.lane k g hg).cont _ hd
     rw [Gj] at h9
     exact h9) (fun p hp=>(List.mem_filter.1 hp).1) (by show k+1<v.gs.length+1;omega)
    rw [zcU,show (v.tick 1).x=v.x from rfl,h3.x,← sR] at Cr
    exact Cr)
 rw [h3.x] at HN HL
 have H2:=aA h2;have H3:=aA h3;have H4:=aA h4
 clear h1 h2 h3 h4 sR ha hT zcU wT
 go_enter Tryz.func74,Tryz.ntmps74
 generalize (gY S k r).length=gl at *
 go_upto_region 3 with ((with_reducible refine HN.out.mono ?_);rintro e w2 ⟨rfl,rfl⟩)
 go_wp2_with (first
  | ((with_reducible refine HL.out.mono ?_);rintro e w3 ⟨o,h5,rfl,h6⟩;obtain ⟨lab3,m3,st3⟩:=vT h6;have L3:=aA h5;have M3:=aA m3;have S3:=aA st3;clear h5 h6 m3 st3)
  | ((with_reducible refine (zkf.out w3 lab3 M3.out o L3.out).mono ?_);rintro e w4 ⟨A',c',rfl,M,h5,h6⟩;have V4:=aA h5;have S4:=aA h6;clear h5 h6))
 go_ret2
 exact ⟨A',c',rfl,M,V4.out,Db.of H2.out (uI.pre S3.out S4.out) (H3.out.tick 1) (H4.out.tick 1 1 (by omega) (Nat.le_refl _))⟩
end Go.Proofs.YtahdiiaadjdmcaaGreat
namespace Go.Proofs.YtahdiiaadjdmcaaGreat
open Go.RowKit
def bS (r:List V):List (List V)→List (List V)
 | []=>[]
 | q :: l=>if bP q r then l else q :: bS r l
theorem Qj {r:List V}:∀ {A B:List (List V)},r∉A→bS r (A ++ r :: B)=A ++ B
 | [],B,_=>by simp [bS,cP.2 (rfl:r=r)]
 |q :: A,B,h=>by
  have h1:bP q r=false:=by
   cases hs:bP q r with
   | false=>rfl
   | true=>exact absurd (List.mem_cons.2 (.inl (cP.1 hs).symm)) h
  rw [List.cons_append,bS,h1,if_neg (by simp),Qj fun hm=>h (List.mem_cons_of_mem _ hm)]
  rfl
def eG (S:aY) (r:List V):aY × Bool × Int:=
 if aV S.width r then if inB S.rows r then ({S with rows:=bS r S.rows},true,0) else (S,false,0) else (S,false,62)
theorem Jk {v:bI} (hr:dB v) {P1 P2:List aS} {s:Nat} {r:List V} (hP:v.P=P1 ++ (s,r) :: P2):bS r (v.P.map (·.2))=(P1 ++ P2).map (·.2):=by
 have jP:=hr.vals
 rw [hP,List.map_append,List.map_cons] at jP ⊢
 rw [Qj,List.map_append]
 rw [List.nodup_append] at jP
 intro hm
 exact jP.2.2 r hm r (by simp) rfl
theorem jS.drop {v v':bI} {D D':Nat→List (List V × Nat)} {N G s:Nat} {P0:List aS} {F0:List Nat} {P':List aS} (h:jS v D N P0 F0) (hl:mI (v.tick 1) v' s P') (ha:oD v' D' G) (hy:G+eH v.U≤gN N) (hm:v.marked=false):jS v' D' (N+1) v'.P (fJ v'.most v'.sl v'.fr):=by
 have hU:v'.U=v.U:=hl.kept.U
 have h0:=h.idle hm
 have hK:=hl.K
 have pI:=h.K
 have hk:=j3 N (Nat.le_refl 1)
 have hg:=kJ (Nat.le_add_right N 1)
 rw [show (v.tick 1).K=v.K+1 from rfl] at hK
 refine ⟨ha.row,ha.lan,ha.gen.mono (by rw [hU];omega),by rw [hU];have:=h.pu;omega,by rw [hU];omega,by rw [hU,h0.1];exact Nat.zero_le _,by rw [hU,h0.1];exact .nil,fun _=>⟨hU.trans h0.1,hl.kept.un.trans h0.2.1,hl.kept.uA.trans h0.2.2.1,hl.kept.uC.trans h0.2.2.2⟩⟩
theorem zE.drop {S:aY} {x:Nat} {v v':bI} {P0:List aS} {P1 P2:List aS} {s:Nat} {r:List V} (h:zE S x v P0) (hr:dB v) (hP:v.P=P1 ++ (s,r) :: P2) (hl:mI (v.tick 1) v' s (P1 ++ P2)) (hm:v.marked=false):zE {S with rows:=bS r S.rows} x v' v'.P:=by
 refine ⟨hl.kept.x.trans h.x,h.width.trans hl.kept.width.symm,h.most.trans hl.kept.most.symm,h.gs.trans hl.kept.gs.symm,?_,hl.kept.marked.trans h.mark,fun o ho=>?_⟩
 ·show bS r S.rows=v'.P.map (·.2)
  rw [hl.P,h.rows,Jk hr hP]
 ·have h1:=h.mark
  rw [hm] at h1
  have ho':S.old=some o:=ho
  rw [ho'] at h1
  cases h1
theorem jS.dropM {v v':bI} {D D':Nat→List (List V × Nat)} {N G s:Nat} {P0:List aS} {F0:List Nat} {P1 P2:List aS} {r:List V} (h:jS v D N P0 F0) (hP:v.P=P1 ++ (s,r) :: P2) (hl:mI (v.tick 1) v' s (P1 ++ P2)) (ha:oD v' D' G) (hy:G+eH v.U≤gN N) (hm:v.marked=true) (Lr:v.P.length≤v.most) {A8:Option Addr} {c8:Nat} {u:Value} {A:Option Addr} {n c:Nat} {H:Option Addr} {m d:Nat} :
 jS {v' with uA:=A8,uC:=c8,un:=v'.un ++ [u],U:=v'.U ++ [.drop r A n c (eC v.gs r P2) H m d]} D' (N+1) P0 F0:=by
 have hU:v'.U=v.U:=hl.kept.U
 have hK:=hl.K
 have pI:=h.K
 have hk:=j3 N (Nat.le_refl 1)
 have hg:=kJ (Nat.le_add_right N 1)
 have zcH:=h.pu
 have yj:eH (v'.U ++ [.drop r A n c (eC v.gs r P2) H m d])=eH v.U:=by rw [hU,wJ _ rfl]
 rw [show (v.tick 1).K=v.K+1 from rfl] at hK
 have hr:=ha.row
 refine ⟨⟨hr.width,hr.most,hr.gsl,hr.gs,hr.rows,hr.slots,hr.vals,hr.alive,hr.lv,hr.refs,hr.ents,hr.gx⟩,ha.lan,ha.gen.mono ?_,?_,?_,?_,?_,fun hf=>?_⟩
 ·show G≤gN (N+1) - eH (v'.U ++ [.drop r A n c (eC v.gs r P2) H m d])
  rw [yj];omega
 ·show eH (v'.U ++ [.drop r A n c (eC v.gs r P2) H m d])≤gN (N+1)
  rw [yj];omega
 ·show v'.K+64*(v'.U ++ [mY.drop r A n c (eC v.gs r P2) H m d]).length≤kF (N+1)
  rw [List.length_append,List.length_singleton,hU];omega
 ·show (v'.U ++ [mY.drop r A n c (eC v.gs r P2) H m d]).length≤N+1
  rw [List.length_append,List.length_singleton,hU]
  have:=h.ul;omega
 ·show qE (nU v'.width v'.most) v'.gs P0 F0 (v'.U ++ [.drop r A n c (eC v.gs r P2) H m d]) v'.P (fJ v'.most v'.sl v'.fr)
  rw [hl.P,hl.fs,hU,show v'.gs=v.gs from hl.kept.gs,show v'.width=v.width from hl.kept.width,show nU v.width v'.most=nU v.width v.most by rw [show v'.most=v.most from hl.kept.most]]
  refine .drop (by rw [← hP];exact ⟨h.row.rows,h.row.vals,Lr⟩) ?_
  have h2:=h.hist
  rw [hP] at h2
  exact h2
 ·have h1:v'.marked=false:=hf
  rw [show v'.marked=v.marked from hl.kept.marked,hm] at h1
  cases h1
theorem zE.dropM {S:aY} {x:Nat} {v v':bI} {P0:List aS} {P1 P2:List aS} {s:Nat} {r:List V} (h:zE S x v P0) (hr:dB v) (hP:v.P=P1 ++ (s,r) :: P2) (hl:mI (v.tick 1) v' s (P1 ++ P2)) {A8:Option Addr} {c8:Nat} {un:List Value} {U:List mY} :
 zE {S with rows:=bS r S.rows} x {v' with uA:=A8,uC:=c8,un:=un,U:=U} P0:=by
 refine ⟨hl.kept.x.trans h.x,h.width.trans hl.kept.width.symm,h.most.trans hl.kept.most.symm,h.gs.trans hl.kept.gs.symm,?_,hl.kept.marked.trans h.mark,fun o ho=>h.old o ho⟩
 show bS r S.rows=v'.P.map (·.2)
 rw [hl.P,h.rows,Jk hr hP]
theorem oD.tick {v:bI} {D:Nat→List (List V × Nat)} {N:Nat} (h:oD v D N) (k:Nat):oD (v.tick k) D N:=
 have hr:=h.row
 ⟨⟨hr.width,hr.most,hr.gsl,hr.gs,hr.rows,hr.slots,hr.vals,hr.alive,hr.lv,hr.refs,hr.ents,hr.gx⟩,h.lan,h.gen⟩
theorem cl_ok' {u:Nat} (h:u≤8796093022208):u+1≤maxLen∧(u+1)*8≤140737488355328:=by unfold maxLen;omega
def Z0 (w:World) (lab:aP) (v:bI) (M:Nat) (r:List V) (e:Ending) (w':World):Prop:=
 (aV v.width r=false∧e=.returned (.tuple #[.bool false,.int .i64 62])∧fK w lab w' (v.tick 1))∨
 (aV v.width r=true∧r∉v.P.map (·.2)∧e=.returned (.tuple #[.bool false,.int .i64 0])∧fK w lab w' (v.tick 1))∨
 (aV v.width r=true∧∃ (P1 P2:List aS) (s:Nat) (v':bI) (D':Nat→List (List V × Nat)),v.P=P1 ++ (s,r) :: P2∧mI (v.tick 1) v' s (P1 ++ P2)∧oD v' D' M∧e=.returned (.tuple #[.bool true,.int .i64 0])∧
  ((v.marked=false∧fK w lab w' v')∨(v.marked=true∧∃ (A8:Option Addr) (c8:Nat) (u:Value) (A:Option Addr) (n c:Nat) (H:Option Addr) (m d:Nat),fK w lab w' {v' with uA:=A8,uC:=c8,un:=v'.un ++ [u],U:=v'.U ++ [.drop r A n c (eC v.gs r P2) H m d]})))
set_option maxRecDepth 100000 in
set_option maxHeartbeats 2000000 in
theorem Ut {w:World} {lab:aP} {v:bI} {D:Nat→List (List V × Nat)} {N M:Nat} (h:cW w lab v) (gI:oD v D N) (g1:∀ i,aX v.sl i<M) (g2:∀ i,aX v.sL i<M) (hM:M≤1073741824) (hK:v.K≤4611686018427370000) (zeH:v.U.length≤8796093022208) {r:List V} {A:Option Addr} {n:Nat} (c:Nat) (ha:bD w A n r) (hB:dR lab.dom A) :
 Calls Tryz.prog 132 #[.pointer (some ⟨v.x,0,none⟩),.slice A n c] w (Z0 w lab v M r):=by
 obtain ⟨x,hx⟩ : ∃ x,v.x=x:=⟨_,rfl⟩
 have fM:=aD.alloc w (.cells #[.pointer (some ⟨x,0,none⟩)] 88)
 have HM:=aA (h.ext fM)
 have HA:=aA (ha.ext fM)
 have HF:=aA (zZ (h.ext fM) c (ha.ext fM))
 have HS:=aA (fun (w2:World) (h2:aD (w.alloc (.cells #[.pointer (some ⟨x,0,none⟩)] 88)) w2)=>Ax ((h.ext fM).ext h2) (by omega) c ((ha.ext fM).ext h2) (by have:=vD r;omega))
 have SB:=aA (aL.new w 88 #[.pointer (some ⟨x,0,none⟩)])
 have Mi:=aA fM
 have HH:=aA h;have Gr:=aA gI;have HG:=aA (And.intro g1 g2);have zg3:=aA (fun (o:Option Int) (ho:pC v r o)=>show zD v r o from ho.spec gI.row ha.wf);have lY:=aA hB;have Xt:=aA ha
 have HT:=aA (gI.tick 1)
 rw [hx] at HF HS ⊢
 have HX:=aA hx
 clear h gI g1 g2 hB ha fM hx
 go_enter Tryz.func132,Tryz.ntmps132
 go_upto_region 1 with fail
 generalize w.alloc (.cells #[.pointer (some ⟨x,0,none⟩)] 88)=w1 at *
 obtain ⟨sb,Vl⟩ : ∃ sb,w.heap.size=sb:=⟨_,rfl⟩
 rw [Vl] at SB ⊢
 have Ww:=aA Vl
 clear Vl
 have s0:w1.cell? ⟨sb,0,none⟩=some (.pointer (some ⟨x,0,none⟩)):=SB.out.cell 0
 cases hf:aV v.width r with
 |false=>
  rw [hf] at HF
  have zjS:=aA hf
  clear hf
  go_wp2_with ((with_reducible refine HF.out.mono ?_);rintro e w2 ⟨rfl,h2⟩;have X2:=aA h2;clear h2)
  go_ret2
  exact Or.inl ⟨zjS.out,rfl,(HM.out.same X2.out 1).pre Mi.out⟩
 |true=>
  rw [hf] at HF
  have ψ:=aA hf
  clear hf
  go_upto_region 4 with (first
   | ((with_reducible refine HF.out.mono ?_);rintro e w2 ⟨rfl,h2⟩;have X2:=aA h2;have s0:=(SB.out.ext h2).cell 0;clear h2)
   | ((with_reducible refine (HS.out w2 X2.out).mono ?_);rintro e w3 ⟨o,h12,rfl,h3⟩;have O2:=aA (zg3.out _ h12);have S3:=aA h3;clear h12 h3))
  cases o with
  |none=>
   dsimp only [Option.getD]
   go_wp2_with fail
   go_ret2
   exact Or.inr (Or.inl ⟨ψ.out,O2.out.2 rfl,rfl,(S3.out.pre X2.out).pre Mi.out⟩)
  |some z=>
   obtain ⟨s,rfl,zdD⟩:=O2.out.1 z rfl
   obtain ⟨P1,P2,hP⟩:=List.append_of_mem zdD
   have HP:=aA hP
   clear zdD hP
   obtain ⟨lab3,s3,d3,c3⟩:=S3.out
   have M3:=aA s3;have D3:=aA d3;have C3:=aA c3
   have Pm:¬ lab.dom sb:=fun ⟨i,hi⟩=>by have:=HH.out.lt _ _ hi;have:=Ww.out;omega
   have zcq:=aA (c3.blk (SB.out.ext X2.out) Pm)
   clear s3 d3 c3 S3
   have s0:w3.cell? ⟨sb,0,none⟩=some (.pointer (some ⟨x,0,none⟩)):=zcq.out.cell 0
   have zkk:¬ (s:Int)<0:=by omega
   dsimp only [Option.getD]
   have zcP:=aA (show ¬ lab3.dom sb from fun hd=>(D3.out sb hd).elim Pm fun h=>by have h1:=SB.out.ext X2.out |>.lt;omega)
   have HUn:=aA (zV M3.out (D:=D) (N:=N) (M:=M) HT.out HG.out.1 HG.out.2 hM (by show v.K+1≤_;omega) (P1:=P1) (P2:=P2) (s:=s) (r:=r) HP.out)
   rw [show (v.tick 1).x=v.x from rfl,HX.out] at HUn
   rw [show (v.tick 1).L=v.L from rfl,show (v.tick 1).gs=v.gs from rfl] at HUn
   have qu:=aA (show eU w lab w3 lab3 from ⟨fun b hb=>(D3.out b hb).imp id fun h=>by have h1:=Mi.out.size;have h2:=X2.out.size;omega,(aF.of (Mi.out.trans X2.out)).trans' C3.out⟩)
   go_upto_region 7 with ((with_reducible refine HUn.out.mono ?_);rintro e w9 ⟨bh,v9,D9,rfl,ν,hbh,xW,⟨lab9,m9,d9,c9,nb9⟩,a9⟩;have L9:=aA ν;have BH:=aA (And.intro hbh xW);have M9:=aA m9;have D9':=aA d9;have C9:=aA c9;have zi8:=aA nb9;have A9:=aA a9;clear ν hbh xW m9 d9 c9 nb9 a9)
   have Py:=aA (aD.alloc w9 (.cells #[.slice (some ⟨bh,0,none⟩) v.L v.L] 23))
   have zac:=aA (aL.new w9 23 #[.slice (some ⟨bh,0,none⟩) v.L v.L])
   obtain ⟨w10,hw10⟩ : ∃ w10,w9.alloc (.cells #[.slice (some ⟨bh,0,none⟩) v.L v.L] 23)=w10:=⟨_,rfl⟩
   rw [hw10] at Py zac ⊢
   clear hw10
   obtain ⟨hb,hhb⟩ : ∃ hb,w9.heap.size=hb:=⟨_,rfl⟩
   rw [hhb] at zac ⊢
   have zhN:=aA hhb
   clear hhb
   have zbs:v9.x=x:=L9.out.kept.x.trans HX.out
   have jy:=aA zbs
   have nC:=aA (eV (bB qu.out ⟨D9'.out,C9.out⟩) Py.out)
   have Vu:=aA (M9.out.ext Py.out)
   have zaO:=aA (C9.out.blk zcq.out zcP.out)
   have zeg:=aA (zaO.out.ext Py.out)
   have zd1:=aA (show ¬ lab9.dom sb∧¬ lab9.dom hb from ⟨fun hd=>(D9'.out _ hd).elim zcP.out fun h=>by have:=zcq.out.lt;omega,fun ⟨i,hi⟩=>by have:=M9.out.lt _ _ hi;have:=zhN.out;omega⟩)
   have s0:w10.cell? ⟨sb,0,none⟩=some (.pointer (some ⟨x,0,none⟩)):=zeg.out.cell 0
   have a11:w10.cell? ⟨x,11,none⟩=some (.bool v9.marked):=by rw [← zbs];exact Vu.out.str.cell 11
   have uE:=aA (show v9.marked=v.marked from L9.out.kept.marked)
   clear zbs
   cases hm9:v9.marked with
   |false=>
    rw [hm9] at a11
    have Δ:=aA hm9
    clear hm9
    go_wp2_with fail
    go_ret2
    exact Or.inr (Or.inr ⟨ψ.out,P1,P2,s,v9,D9,HP.out,L9.out,A9.out,rfl,.inl ⟨uE.out.symm.trans Δ.out,lab9,Vu.out,nC.out.1,nC.out.2⟩⟩)
   |true=>
    rw [hm9] at a11
    have Δ:=aA hm9
    clear hm9
    have zdo:w.heap.size≤w3.heap.size:=qu.out.2.size
    have zbH:=HA.out.ext X2.out |>.chg (fun a ha hd=>lY.out a ha hd) C3.out
    have zfX:=aA ((zbH.chgS (Xt.out.at_.2.lt' (by omega)) (fun a ha hl hd=>(D3.out _ hd).elim (fun h=>lY.out a ha h) fun h=>by have h1:=Mi.out.size;have h2:=X2.out.size;omega) C9.out).ext Py.out)
    have HCl:=aA (wZ (aO r) A n c w10 zfX.out.at_.2 (fB r) (by have:=Xt.out.len;omega))
    clear zbH
    go_upto_region 9 with ((with_reducible refine HCl.out.mono ?_);rintro e w11 ⟨A7,c7,rfl,h7,x7⟩;have O7:=aA h7;have X7:=aA x7;clear h7 x7)
    obtain rfl:n=r.length:=Xt.out.at_.len
    have yp:=aA (aL.new w11 28 #[.slice A7 r.length c7])
    have Uo:=aA (aD.alloc w11 (.cells #[.slice A7 r.length c7] 28))
    obtain ⟨w12,hw12⟩ : ∃ w12,w11.alloc (.cells #[.slice A7 r.length c7] 28)=w12:=⟨_,rfl⟩
    rw [hw12] at yp Uo ⊢
    clear hw12
    have X8:=aA (X7.out.trans Uo.out)
    have Ya:=aA (show w10.heap.size≤w11.heap.size∧w11.heap.size<w12.heap.size from ⟨X7.out.size,yp.out.lt⟩)
    have O8:=aA (iL O7.out Uo.out)
    have jp:=aA (show ∀ a,A7=some a→w10.heap.size≤a.block∧a.block<w11.heap.size from fun a ha=>⟨wC O7.out a ha,(O7.out.lt a.block (by rw [ha];rfl)).2⟩)
    generalize w11.heap.size=kb at *
    have vv:=aA (zeg.out.ext X8.out);have zc8:=aA (zac.out.ext X8.out);have zjI:=aA (iL (iL BH.out.2 Py.out) X8.out)
    have zhr:=aA (show bh<w9.heap.size from (BH.out.2.lt bh rfl).2)
    have zjZ:=aA (Vu.out.ext X8.out)
    have zkn:=Py.out.size
    have zeD:=aA (zjZ.out.adopt (C:=fun b=>b=sb∨b=kb∨b=hb∨b=bh∨∃ a,A7=some a∧a.block=b) (fun b hb'=>by
     rcases hb' with rfl | rfl | rfl | rfl | ⟨a,ha,rfl⟩
     ·exact ⟨vv.out.lt,zd1.out.1⟩
     ·exact ⟨Ya.out.2,fun ⟨i,hi⟩=>by have:=Vu.out.lt _ _ hi;have:=Ya.out.1;omega⟩
     ·exact ⟨zc8.out.lt,zd1.out.2⟩
     ·exact ⟨by have h1:=zhr.out;have h3:=X8.out.size;omega,zi8.out⟩
     ·exact ⟨by have h1:=(jp.out a ha).2;have h2:=Ya.out.2;omega,fun ⟨i,hi⟩=>by have:=Vu.out.lt _ _ hi;have:=(jp.out a ha).1;omega⟩))
    have za9:∀ (fn:Fn) (first cap:Array Value) (w:World),(Instr.makeFunc fn first cap).run Tryz.prog w=.ok (.func fn first cap) w:=fun _ _ _ _=>rfl
    obtain ⟨hxb,hxin,-,o6⟩:=zeD.out.part 0
    have zc4:=aA o6;have kp:=aA hxb
    have cZ:=(zeD.out.part 8).2.1
    have k_:=aA (show v9.un.length≤8796093022208 by rw [← cZ,L9.out.kept.U];exact zeH)
    have hz:oM w12 ((lab9.with_ 8 (fun b=>b=sb∨b=kb∨b=hb∨b=bh∨∃ a,A7=some a∧a.block=b)).own 8) v9.x (.func (.func 138) #[] #[.pointer (some ⟨sb,0,none⟩),.pointer (some ⟨kb,0,none⟩),.pointer (some ⟨hb,0,none⟩)]) (.drop r A7 r.length c7 (eC v.gs r P2) (some ⟨bh,0,none⟩) v.L v.L):=
     ⟨sb,kb,hb,rfl,by rw [jy.out];exact vv.out,aP.with_own (.inl rfl),yp.out,aP.with_own (.inr (.inl rfl)),⟨aW.own O8.out,fun a ha=>aP.with_own (.inr (.inr (.inr (.inr ⟨a,ha,rfl⟩))))⟩,zc8.out,aP.with_own (.inr (.inr (.inl rfl))),⟨cB.own zjI.out,fun a ha=>by injection ha with ha;subst ha;exact aP.with_own (.inr (.inr (.inr (.inl rfl))))⟩⟩
    have HZ:=aA hz
    clear hxb hxin o6 hz cZ a11 s0
    have s0:w12.cell? ⟨sb,0,none⟩=some (.pointer (some ⟨x,0,none⟩)):=vv.out.cell 0
    have a12:w12.cell? ⟨x,12,none⟩=some (.slice v9.uA v9.un.length v9.uC):=by rw [← jy.out];exact zeD.out.str.cell 12
    have s0:=aB s0
    have a12:=aB a12
    refine rN 7 (fun w'=>w'.cell? ⟨sb,0,none⟩=some (.pointer (some ⟨x,0,none⟩))) _ rfl ?_ ?_ ?_ ?_ ?_ ?_
    ·kernel_rfl
    ·kernel_rfl
    ·assumption
    ·kernel_rfl
    ·exact fun _ _ _ _ _ h=>h
    refine ⟨_,_,?_,rfl,?_⟩;rotate_left
    refine ⟨⟨by kernel_rfl,fun w9 h9=>?_⟩,fun _ _ _ h=>h,fun K hK=>?_⟩
    ·go_simp;first | done | rfl
    go_simp;refine hK _ _ ?_;clear hK K
    iterate 5
     refine aK (by kernel_rfl) (by kernel_rfl) ?_
     apply Exists.intro
     refine ⟨fun w1 aT=>?_,fun K hK=>?_⟩
     ·go_simp;first | done | rfl
     go_simp;refine hK _ _ ?_;clear hK K
    refine cU [] (fun u w1=>∃ gb,u=.slice (some ⟨gb,0,none⟩) 1 1∧aL w1 gb 1 #[.func (.func 138) #[] #[.pointer (some ⟨sb,0,none⟩),.pointer (some ⟨kb,0,none⟩),.pointer (some ⟨hb,0,none⟩)]]) (fun u w1 w2 _ h2 ⟨gb,h3,h4⟩=>⟨gb,h3,h4.ext h2⟩) rfl (by kernel_rfl) (fun w1 aT=>?_) ?_
    ·clear a12
     simp only [cN]
     go_simp
     exact ⟨aD.alloc _ _,aL.new _ _ _⟩
    refine aH ⟨rfl,by kernel_rfl,fun wa sW=>?_⟩
    simp only [bL]
    rintro _ ⟨gb,rfl,hgb⟩
    simp only [List.drop,List.take,List.dropLast]
    have HS:=aA (show Sl wa (some ⟨gb,0,none⟩) 1 1 [.func (.func 138) #[] #[.pointer (some ⟨sb,0,none⟩),.pointer (some ⟨kb,0,none⟩),.pointer (some ⟨hb,0,none⟩)]] from hgb.sl rfl)
    have dG:=aA (show aQ [Value.func (.func 138) #[] #[.pointer (some ⟨sb,0,none⟩),.pointer (some ⟨kb,0,none⟩),.pointer (some ⟨hb,0,none⟩)]] from fun v hv=>by simp at hv;rw [hv];rfl)
    have MA:=aA (zeD.out.ext sW);have UA:=aA (zc4.out.ext sW);have XA:=aA (kp.out.ext sW);have ZA:=aA (oM.chg (C:=fun _=>False) (aF.of sW) (fun _ _ h=>h) HZ.out);have SA:=aA (vv.out.ext sW);have EA:=aA sW
    clear s0 a12 hgb sW zc4 kp HZ
    obtain ⟨i0,eQ,hz0,hz1,eO⟩:=info_parts jq
    have qC:=cl_ok' k_.out
    go_wp2_with (at_builtin;refine aI rfl (.tmp 31) (.tmp 33) _ rfl ((lab9.with_ 8 (fun b=>b=sb∨b=kb∨b=hb∨b=bh∨∃ a,A7=some a∧a.block=b)).own 0) 1 i0 _ 1 8 Tryz.underlying129 eQ hz0 hz1 eO rfl (by omega) (.slice v9.uA v9.un.length v9.uC) v9.un.length v9.un rfl UA.out _ 1 1 _ rfl HS.out dG.out qC.1 qC.2 ?_;intro A8 c8 w8 own8 G8 C8)
    have Vq:=XA.out.grown G8.out (aN UA.out.own XA.out (by decide))
    have qh:=SA.out.grown G8.out (aN UA.out.own SA.out (by decide))
    have HPush:=aA (MA.out.push ZA.out own8.out G8.out C8.out)
    have zdw:=aA qh
    have f12:w8.frozen? ⟨x,12,none⟩=false:=by rw [← jy.out];exact Vq.frozen 12
    have v12:w8.cell? ⟨x,12,none⟩=some (.slice v9.uA v9.un.length v9.uC):=by rw [← jy.out];exact Vq.cell 12
    have aZ:sb≠x:=fun e=>Pm ⟨0,by rw [e,← HX.out];exact (HH.out.part 0).2.1⟩
    have zh:=aA aZ
    rw [show (⟨v9.x,12,none⟩ : Addr) =⟨x,12,none⟩ by rw [jy.out]] at HPush
    simp only [zdb]
    refine ⟨qh.cell 0,?_⟩
    clear Vq qh aZ XA UA SA ZA own8 G8 C8
    unfold Wb
    apply Exists.intro
    refine ⟨fun w9=>?_,fun K hK=>?_⟩
    ·go_simp;first | done | rfl
    go_simp;refine hK _ ?_;clear hK K
    unfold Wb
    apply Exists.intro
    refine ⟨fun w9=>?_,fun K hK=>?_⟩
    ·go_simp;first | done | rfl
    go_simp;refine hK _ ?_;clear hK K
    unfold Wb
    go_wp2_with fail
    refine ⟨(zdw.out.far (p:=⟨x,12,none⟩) zh.out _).cell 0,?_⟩
    go_wp2_with fail
    go_ret2
    obtain ⟨labE,mE,dE,cE⟩:=HPush.out
    have zj0:=aA (show w.heap.size≤bh from Nat.le_trans zdo BH.out.1)
    have fI:=bB (show eU w lab wa (lab9.with_ 8 (fun b=>b=sb∨b=kb∨b=hb∨b=bh∨∃ a,A7=some a∧a.block=b)) from ⟨fun b hd=>(aP.with_dom hd).elim (fun h=>.inr (by
     have h1:=nC.out.2.size
     rcases h with rfl | rfl | rfl | rfl | ⟨a,ha,rfl⟩
     ·rw [← Ww.out];exact Nat.le_refl _
     ·exact Nat.le_trans h1 Ya.out.1
     ·rw [← zhN.out];exact Nat.le_trans zdo C9.out.size
     ·exact zj0.out
     ·exact Nat.le_trans h1 (jp.out a ha).1)) (nC.out.1 b),(eV (eV nC.out X8.out) EA.out).2⟩) ⟨dE,cE⟩
    exact Or.inr (Or.inr ⟨ψ.out,P1,P2,s,v9,D9,HP.out,L9.out,A9.out,rfl,.inr ⟨uE.out.symm.trans Δ.out,_,_,_,_,_,_,_,_,_,labE,mE,fI.1,fI.2⟩⟩)
def Qm (w:World) (B:Nat→Prop) (x:Nat) (S:aY) (N:Nat):Prop:=
 ∃ lab v D P0 F0 G,cW w lab v∧(∀ b,lab.dom b→B b)∧zE S x v P0∧jS v D N P0 F0∧(∀ i,aX v.sl i<G)∧(∀ i,aX v.sL i<G)∧G+eH v.U≤gN N
def Gs (w:World) (B:Nat→Prop) (x:Nat) (S:aY) (N:Nat) (w':World):Prop:=
 ∃ B',Qm w' B' x S N∧(∀ b,B' b→B b∨w.heap.size≤b)∧(∀ b,B' b→b<w'.heap.size)∧aF B w w'
theorem Qm.sti {w:World} {B:Nat→Prop} {x:Nat} {S:aY} {N:Nat} (h:Qm w B x S N):kK w B x S N:=by
 obtain ⟨lab,v,D,P0,F0,G,h1,h2,h3,h4,h5⟩:=h
 exact ⟨lab,v,D,P0,F0,h1,h2,h3,h4⟩
theorem Gs.sts {w w':World} {B:Nat→Prop} {x:Nat} {S:aY} {N:Nat} (h:Gs w B x S N w'):pA w B x S N w':=by
 obtain ⟨B',h1,h2⟩:=h
 exact ⟨B',h1.sti,h2⟩
theorem Gs.of {w w':World} {B:Nat→Prop} {x:Nat} {S:aY} {N G:Nat} {lab:aP} {v':bI} {D:Nat→List (List V × Nat)} {P0:List aS} {F0:List Nat} (hB:∀ b,lab.dom b→B b) (h:fK w lab w' v') (he:zE S x v' P0) (ho:jS v' D N P0 F0) (hy:(∀ i,aX v'.sl i<G)∧(∀ i,aX v'.sL i<G)∧G+eH v'.U≤gN N):Gs w B x S N w':=by
 obtain ⟨lab',h1,h2,h3⟩:=h
 exact ⟨lab'.dom,⟨lab',v',D,P0,F0,G,h1,fun b hb=>hb,he,ho,hy⟩,fun b hb=>(h2 b hb).imp (hB b) id,fun b ⟨i,hi⟩=>h1.lt b i hi,h3.mono fun g hg _=>hB g hg⟩
theorem Qm.chg {w w':World} {B C:Nat→Prop} {x:Nat} {S:aY} {N:Nat} (h:Qm w B x S N) (hw:aF C w w') (hC:∀ g,B g→¬ C g):Qm w' B x S N:=by
 obtain ⟨lab,v,D,P0,F0,Y,h1,h2,h3⟩:=h
 exact ⟨lab,v,D,P0,F0,Y,h1.chg hw fun g hg=>hC g (h2 g hg),h2,h3⟩
theorem kK.std {w:World} {B:Nat→Prop} {x:Nat} {S:aY} {N:Nat} (h:kK w B x S N):Qm w B x S (N+262144):=by
 obtain ⟨lab,v,D,P0,F0,h1,h2,h3,h4⟩:=h
 have h5:=h4.tick 0 262144 (by omega) (by omega)
 refine ⟨lab,v.tick 0,D,P0,F0,gN N - eH v.U+1,h1.tick 0,h2,?_,h5,fun i=>?_,fun i=>?_,?_⟩
 ·exact ⟨h3.x,h3.width,h3.most,h3.gs,h3.rows,h3.mark,h3.old⟩
 ·show aX v.sl i<_
  have:=h4.gen.s i;omega
 ·show aX v.sL i<_
  have:=h4.gen.L i;omega
 ·show gN N - eH v.U+1+eH v.U≤gN (N+262144)
  have h6:=Yq N (Nat.le_refl 262144)
  have h7:=h4.pu
  omega
theorem Zt {w:World} {B:Nat→Prop} {x:Nat} {S:aY} {N:Nat} (h:Qm w B x S N) (hN:N+1≤8796093022208) {r:List V} {A:Option Addr} {n:Nat} (c:Nat) (ha:bD w A n r) (hB:dR B A) :
 Calls Tryz.prog 132 #[.pointer (some ⟨x,0,none⟩),.slice A n c] w fun e w'=>e=.returned (.tuple #[.bool (eG S r).2.1,.int .i64 (eG S r).2.2])∧Gs w B x (eG S r).1 (N+1) w':=by
 obtain ⟨lab,v,D,P0,F0,G,h1,h2,h3,h4,g1,g2,g3⟩:=h
 have hK:=h4.K
 have zeH:=h4.ul
 have hk:=mD (N:=N) (by omega)
 have nD:=Ra (N:=N) (by omega)
 have Lr:v.P.length≤v.most:=by have h5:=(h1.part 2).ok.live;have h6:=(h1.part 2).ok.len;have h7:=h4.row.lv;omega
 have hT:(∀ i,aX (v.tick 1).sl i<G)∧(∀ i,aX (v.tick 1).sL i<G)∧G+eH (v.tick 1).U≤gN (N+1):=⟨g1,g2,Nat.le_trans g3 (kJ (Nat.le_add_right N 1))⟩
 have Q_:=Ut h1 (D:=D) (N:=gN N) (M:=G) h4.at_ g1 g2 (by omega) (by omega) (by omega) c ha (fun a ha hd=>hB a ha (h2 _ hd))
 rw [h3.x] at Q_
 refine Q_.mono ?_
 rintro e w' (⟨hf,rfl,hs⟩ | ⟨hf,hn,rfl,hs⟩ | ⟨hf,P1,P2,s,v',D',hP,hU,hA,rfl,hm⟩)
 ·have bR:eG S r=(S,false,62):=by unfold eG;rw [h3.width,hf];rfl
  rw [bR]
  exact ⟨rfl,Gs.of h2 hs (h3.tick 1) (h4.tick 1 1 (by omega) (Nat.le_refl _)) hT⟩
 ·have bR:eG S r=(S,false,0):=by
   unfold eG
   rw [h3.width,hf,show inB S.rows r=false by rw [Bool.eq_false_iff,ne_eq,bK,h3.rows];exact hn];rfl
  rw [bR]
  exact ⟨rfl,Gs.of h2 hs (h3.tick 1) (h4.tick 1 1 (by omega) (Nat.le_refl _)) hT⟩
 ·have bR:eG S r=({S with rows:=bS r S.rows},true,0):=by
   unfold eG
   rw [h3.width,hf,show inB S.rows r=true by rw [bK,h3.rows,hP];simp];rfl
  rw [bR]
  have k1:∀ i,aX v'.sl i<G:=fun i=>by rw [hU.gs i];exact g1 i
  have k2:∀ i,aX v'.sL i<G:=fun i=>by rw [hU.gL i];exact g2 i
  rcases hm with ⟨hm,hs⟩ | ⟨hm,A8,c8,u,A',n',c',H,m,d,hs⟩
  ·exact ⟨rfl,Gs.of h2 hs (h3.drop h4.row hP hU hm) (h4.drop hU hA g3 hm) ⟨k1,k2,by rw [show v'.U=v.U from hU.kept.U];exact hT.2.2⟩⟩
  ·refine ⟨rfl,Gs.of h2 hs (h3.dropM h4.row hP hU) (h4.dropM hP hU hA g3 hm Lr) ⟨k1,k2,?_⟩⟩
   show G+eH (v'.U ++ [.drop r A' n' c' (eC v.gs r P2) H m d])≤gN (N+1)
   rw [wJ _ rfl,show v'.U=v.U from hU.kept.U]
   exact hT.2.2
theorem vB {w:World} {B:Nat→Prop} {x:Nat} {S:aY} {N:Nat} (h:kK w B x S N) (hN:N+262145≤8796093022208) {r:List V} {A:Option Addr} {n:Nat} (c:Nat) (ha:bD w A n r) (hB:dR B A) :
 Calls Tryz.prog 132 #[.pointer (some ⟨x,0,none⟩),.slice A n c] w fun e w'=>e=.returned (.tuple #[.bool (eG S r).2.1,.int .i64 (eG S r).2.2])∧pA w B x (eG S r).1 (N+262145) w':=by
 refine (Zt h.std (by omega) c ha hB).mono ?_
 rintro e w' ⟨rfl,hs⟩
 exact ⟨rfl,hs.sts⟩
end Go.Proofs.YtahdiiaadjdmcaaGreat
