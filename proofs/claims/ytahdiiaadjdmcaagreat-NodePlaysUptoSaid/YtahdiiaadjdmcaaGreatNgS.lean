import Derived.Test.YtahdiiaadjdmcaaGreatNgR
namespace Go.Proofs.YtahdiiaadjdmcaaGreat
open Go.RowKit
def Lw (md:Region.Mode) (ops:Array Oper) (i j:Nat) (ks2:List (Nat × Bool)):List (Nat × Bool)→Array Bool→Bool
 | [],listed=>decide (Region.ready md ops listed=[i,j]) && decide (Region.ready md ops (listed.setIfInBounds i true)=[j]) && decide (Region.ready md ops (listed.setIfInBounds j true)=[i]) && Ds md ops ks2 ((listed.setIfInBounds i true).setIfInBounds j true) && Ds md ops ks2 ((listed.setIfInBounds j true).setIfInBounds i true)
 | (k,_) :: ks,listed=>(Region.ready md ops listed).contains k && Region.free md ops listed k && Lw md ops i j ks2 ks (listed.setIfInBounds k true)
def u_ (ops:Array Oper) (i j:Nat) (ks ks2:List (Nat × Bool)):Bool:=decide (ks.length+(ks2.length+2)=ops.size) && Region.noSelect ops && Lw .any ops i j ks2 ks (Array.replicate ops.size false)
def Y2 (P:Program) (ops:Array Oper) (Q:Exit→Act→World→Prop) (St:World→Prop) (ks2:List (Nat × Bool)) (i j:Nat) (a:Act) (w:World):Prop:=
 ∃ oi oj,ops[i]?=some oi∧ops[j]?=some oj∧wpList P ops (kB Q St fun a w=>wpList P ops (kB Q St (dO P ops Q St ks2)) [oj] a w) [oi] a w
def rM (P:Program) (ops:Array Oper) (Q:Exit→Act→World→Prop) (St:World→Prop) (ks2:List (Nat × Bool)) (i j:Nat):List (Nat × Bool)→Act→World→Prop
 | [],a,w=>Y2 P ops Q St ks2 i j a w∧Y2 P ops Q St ks2 j i a w
 | (k,_) :: ks,a,w=>∃ o,ops[k]?=some o∧∃ v,YieldsIf P ops St o v a∧∀ K:Act→Prop,(∀ a,rM P ops Q St ks2 i j ks a w→K a)→K (a.put o.dst v)
section
variable {P:Program} {ops:Array Oper} {md:Region.Mode} {Q:Exit→Act→World→Prop} {St:World→Prop}
theorem sJ (hQ:∀ c (d:Tmp) v (a:Act) w,Q (.panic c) (a.put (some d) v) w→Q (.panic c) a w) (hns:Region.noSelect ops=true) {ks2:List (Nat × Bool)} {i j:Nat} {listed:Array Bool} {a:Act} {w:World} (h1:Region.ready md ops (listed.setIfInBounds i true)=[j]) (h2:Ds md ops ks2 ((listed.setIfInBounds i true).setIfInBounds j true)=true) (h:Y2 P ops Q St ks2 i j a w) :
 wpOp P ops Q i (fun a' w'=>St w'∧wpAnyH P md ops Q St (ks2.length+1) (listed.setIfInBounds i true) a' w') a w:=by
 obtain ⟨oi,oj,hi,hj,h⟩:=h
 refine wpOp_mono (fun a2 w2 h5=>⟨h5.1,?_⟩) (Gi h hi)
 refine wpAnyH_all h1 (by simp) fun q hq=>?_
 obtain rfl:=List.mem_singleton.1 hq
 refine wpOp_mono (fun a3 w3 h6=>⟨h6.1,?_⟩) (Gi h5.2 hj)
 exact nS hQ hns ks2 _ _ w3 h2 h6.1 h6.2
theorem qZ (hQ:∀ c (d:Tmp) v (a:Act) w,Q (.panic c) (a.put (some d) v) w→Q (.panic c) a w) (hns:Region.noSelect ops=true) {ks2:List (Nat × Bool)} {i j:Nat} :
 ∀ (ks:List (Nat × Bool)) (listed:Array Bool) (a:Act) (w:World),Lw md ops i j ks2 ks listed=true→St w→rM P ops Q St ks2 i j ks a w→wpAnyH P md ops Q St (ks.length+(ks2.length+2)) listed a w
 |[],listed,a,w,hB,_,h=>by
  simp only [Lw,Bool.and_eq_true,decide_eq_true_eq] at hB
  obtain ⟨⟨⟨⟨h1,h2⟩,h3⟩,h4⟩,h5⟩:=hB
  rw [List.length_nil,Nat.zero_add]
  refine wpAnyH_all h1 (by simp) fun q hq=>?_
  rcases List.mem_cons.1 hq with rfl | hq
  ·exact sJ hQ hns h2 h4 h.1
  ·obtain rfl:=List.mem_singleton.1 hq
   exact sJ hQ hns h3 h5 h.2
 |(k,b) :: ks,listed,a,w,hB,hS,⟨o,h0,v,hv,h⟩=>by
  simp only [Lw,Bool.and_eq_true] at hB
  obtain ⟨⟨hr,hf⟩,hB'⟩:=hB
  rw [List.length_cons,Nat.add_right_comm]
  exact wpAnyH_take h0 hns hf hr (fun c a w=>by cases o.dst with | none=>exact id | some d=>exact hQ c d v a w) hv hS (qZ hQ hns ks _ _ w hB' hS (h (fun a=>rM P ops Q St ks2 i j ks a w) fun a h=>h))
theorem qI {id:Nat} {a:Act} {w:World} {l:List Oper} (ks:List (Nat × Bool)) (i j:Nat) (ks2:List (Nat × Bool)) (St:World→Prop) (hm:P.follows .mixedOrders=true) (hB:u_ l.toArray i j ks ks2=true) (hQ:∀ c (d:Tmp) v (a:Act) w,Q (.panic c) (a.put (some d) v) w→Q (.panic c) a w) (hSt:∀ w',aD w w'→St w')
 (h:∀ w',aD w w'→rM P l.toArray Q St ks2 i j ks a w'):(Code.region id l.toArray true).wp P Q a w:=by
 simp only [u_,Bool.and_eq_true,decide_eq_true_eq] at hB
 obtain ⟨⟨cZ,hns⟩,hB⟩:=hB
 refine wp_region_held (S:=St) hm ?_
 have aT:aD w {w with drawn:=w.drawn+1}:=aD.drew w
 have h1:=qZ hQ hns ks _ a _ hB (hSt _ aT) (h _ aT)
 rw [cZ] at h1
 exact h1
end
end Go.Proofs.YtahdiiaadjdmcaaGreat
namespace Go.Proofs.YtahdiiaadjdmcaaGreat
open Go.RowKit
def zgw (K:NK) (from_:Int) (wd:Nat):Prop:=(wd=K.side.length∧from_=2∧K.kind=3)∨(wd=K.inn∧from_=1)
theorem zgw.turn {K:NK} {from_:Int} {wd:Nat} (h:zgw K from_ wd) (s:cR) (on:Bool) (r:List V):sU K s on from_ r=if aV wd r then lK K s on from_ r else (s,[],[],62):=by
 unfold sU
 rcases h with ⟨rfl,rfl,h3⟩ | ⟨rfl,rfl⟩
 ·rw [if_pos ⟨rfl,h3⟩]
 ·rw [if_neg (fun h=>by have:=h.1;omega),if_neg (by decide)]
def lV (w:World) (P:Nat→Prop) (d:Nat) (K:NK) (a:aR) (t:rE) (e:Ending) (w':World):Prop:=
 ∃ A c A2 c2,e=.returned (.tuple #[.slice A t.2.1.length c,.slice A2 t.2.2.1.length c2,.int .i64 t.2.2.2])∧cY w' (And' P w.heap.size w'.heap.size) A t.2.1.length c t.2.1∧cY w' (And' P w.heap.size w'.heap.size) A2 t.2.2.1.length c2 t.2.2.1∧oT w' (And' P w.heap.size w'.heap.size) d K {a with now:=t.1}∧aF (fun b=>b=d) w w'
theorem cY.nil (w:World) (P:Nat→Prop):cY w P none 0 0 []:=⟨rfl,[],aJ.nil _ _ _ _,.nil⟩
theorem lV.fail {w w':World} {P:Nat→Prop} {d:Nat} {K:NK} {a:aR} {U:lS} (h:tA w P d K a U) (hw:aD w w') (z:Int):lV w P d K a (a.now,[],[],z) (.returned (.tuple #[.slice none 0 0,.slice none 0 0,.int .i64 z])) w':=
 ⟨none,0,none,0,rfl,cY.nil _ _,cY.nil _ _,⟨U,h.keep_ (aF.of hw) (fun _ hb=>.inl hb) fun b hb=>hb.elim (fun hb=>Nat.lt_of_lt_of_le (h.base.lt b hb) hw.size) fun hb=>hb.2⟩,aF.of hw⟩
theorem I2 {w:World} {P:Nat→Prop} {rows:List (List V)} {A Ar:Option Addr} {n c m:Nat} {r:List V} (cr:Nat) (h:cY w P A n c rows) (hn:n≤65536) (hs:∀ s∈rows,s.length≤30) (hP:∀ b,P b→b<w.heap.size) (ha:bD w Ar m r) (on:Bool) (most:Nat) :
 Calls Tryz.prog 44 #[.slice A n c,.bool on,.slice Ar m cr,.int .i64 most] w (Ow P w (iH rows on r most)):=by
 cases on
 ·exact zl cr h hn hs hP ha most
 ·exact zaV cr h hn hs ha most
theorem cY.farT {w:World} {P:Nat→Prop} {g:Nat} {cs:Array Value} {t:TypeId} {A:Option Addr} {n c:Nat} {rows:List (List V)} (h:cY w P A n c rows) (hb:aL w g t cs) (h1:28≠t) (h2:85≠t) (j:Nat) (u:Value):cY (w.setCell ⟨g,j,none⟩ u) P A n c rows:=by
 obtain ⟨k1,xs,k2,k3⟩:=h
 refine ⟨k1,xs,k2.far hb h1 j u,k3.mono fun cs r hx=>?_⟩
 obtain ⟨A,n,c,e,ho⟩:=hx
 exact ⟨A,n,c,e,ho.far hb h2 j u⟩
theorem jC.farS {w:World} {P:Nat→Prop} {g:Nat} {cs:Array Value} {s:cR} {L:Dq} (h:jC w P s L) (hb:aL w g 66 cs) (j:Nat) (u:Value):jC (w.setCell ⟨g,j,none⟩ u) P s L:=
 ⟨h.ons.farT hb (by decide) (by decide) j u,h.sides.farT hb (by decide) (by decide) j u,aJ.far h.cnt hb (by decide) j u,h.live.farT hb (by decide) (by decide) j u⟩
def zdq (P:Nat→Prop) (K:NK) (s:cR) (on:Bool) (from_:Int) (r:List V) (m g:Nat) (w4:World) (s1:cR) (L1:Dq) (e:Int) (w:World):Prop:=
 gM K s on from_ r=(s1,e)∧aL w g 66 (Fi s1 L1)∧jC w (fun b=>P b∨m≤b) s1 L1∧aF (fun b=>b=g) w4 w
set_option maxRecDepth 100000 in
set_option maxHeartbeats 8000000 in
theorem Ld {w:World} {P:Nat→Prop} {d:Nat} {K:NK} {a:aR} {U:lS} (h:tA w P d K a U) (on:Bool) (from_:Int) {r:List V} {Ar:Option Addr} {m:Nat} (c:Nat) (ha:bD w Ar m r) :
 Calls Tryz.prog 22 #[.pointer (some ⟨d,0,none⟩),.bool on,.int .i64 from_,.slice Ar m c] w (lV w P d K a (sU K a.now on from_ r)):=by
 obtain rfl:=ha.at_.len
 have hb:=h.base.blk
 have d0:w.cell? ⟨d,0,none⟩=some (.int .i64 (K.kind:Nat)):=hb.cell 0
 have d1:w.cell? ⟨d,1,none⟩=some (.int .i64 (K.inn:Nat)):=hb.cell 1
 have d3:w.cell? ⟨d,3,none⟩=some (.slice U.sA K.side.length U.sC):=hb.cell 3
 have HI:=aA h;have HA:=aA ha;have HB:=aA hb
 have hv:=Sa r Ar r.length c w ha.at_ (by have:=ha.len;omega) ha.small
 have HV:=aA hv
 clear h ha hb hv
 go_enter Tryz.func22,Tryz.ntmps22
 go_upto_region 2 with fail
 go_cut [36] from 22 to 219 (fun s36 wx=>s36=.bool (decide (from_=2∧K.kind=3))∧w=wx)
 case first=>
  by_cases f2:from_=2
  ·have q2:(from_ == 2)=true:=by simp [f2]
   by_cases k3:K.kind=3
   ·have q3:((K.kind:Int) == 3)=true:=by simp [k3]
    have HD:=aA (decide_eq_true (p:=from_=2∧K.kind=3) ⟨f2,k3⟩)
    clear f2 k3
    go_wp2_with fail
    go_meet
    exact ⟨by rw [HD.out],rfl⟩
   ·have q3:((K.kind:Int) == 3)=false:=by simp;omega
    have HD:=aA (decide_eq_false (p:=from_=2∧K.kind=3) fun h=>k3 h.2)
    clear f2 k3
    go_wp2_with fail
    go_meet
    exact ⟨by rw [HD.out],rfl⟩
  ·have q2:(from_ == 2)=false:=by simp [f2]
   have HD:=aA (decide_eq_false (p:=from_=2∧K.kind=3) fun h=>f2 h.1)
   clear f2
   go_wp2_with fail
   go_meet
   exact ⟨by rw [HD.out],rfl⟩
 case rest=>
 obtain ⟨rfl,rfl⟩:=hcut
 obtain ⟨sd,Iw⟩ : ∃ sd,decide (from_=2∧K.kind=3)=sd:=⟨_,rfl⟩
 have Zy:=aA Iw
 rw [Iw]
 clear Iw
 go_upto_if 36 with fail
 go_cut [11] from 22 to 219 (fun s11 wx=>∃ wd:Nat,s11=.int .i64 (wd:Nat)∧w=wx∧Hid (zgw K from_ wd))
 case first=>
  cases sd with
  |true=>
   have HW:=aA (of_decide_eq_true Zy.out)
   go_wp2_with fail
   go_meet
   exact ⟨K.side.length,rfl,rfl,.inl ⟨rfl,HW.out⟩⟩
  |false=>
   have HW:=aA (of_decide_eq_false Zy.out)
   by_cases f1:from_=1
   ·have q1:(from_ != 1)=false:=by simp [f1]
    have HF:=aA f1
    clear f1
    go_wp2_with fail
    go_meet
    exact ⟨K.inn,rfl,rfl,.inr ⟨rfl,HF.out⟩⟩
   ·have q1:(from_ != 1)=true:=by simp [f1]
    have HT:=aA (show sU K a.now on from_ r=(a.now,[],[],190) from by unfold sU;rw [if_neg HW.out,if_pos f1])
    clear f1
    go_wp2_with fail
    go_ret3
    rw [HT.out]
    exact lV.fail HI.out (aD.refl _) 190
 case rest=>
 obtain ⟨wd,rfl,rfl,zhs⟩:=hcut
 by_cases hl:¬ r.length=wd
 ·have hq:((r.length:Int) != (wd:Int))=true:=by simp;omega
  have HT:=aA (show sU K a.now on from_ r=(a.now,[],[],62) from by rw [zhs.out.turn,if_neg];unfold aV;simp [hl])
  clear hl
  go_wp2_with fail
  go_ret3
  rw [HT.out]
  exact lV.fail HI.out (aD.refl _) 62
 have hl:=Classical.not_not.1 hl
 have hq:((r.length:Int) != (wd:Int))=false:=by simp [hl]
 obtain ⟨bv,hbv⟩ : ∃ bv,cQ r=bv:=⟨_,rfl⟩
 have HF:=aA (show aV wd r=bv from by unfold aV;rw [hbv];simp [hl])
 rw [hbv] at HV
 clear hl hbv
 cases bv with
 |false=>
  have HT:=aA (show sU K a.now on from_ r=(a.now,[],[],62) from by rw [zhs.out.turn,HF.out];rfl)
  go_wp2_with ((with_reducible refine HV.out.mono ?_);rintro e w2 ⟨rfl,x2⟩;have X2:=aA x2;clear x2)
  go_ret3
  rw [HT.out]
  exact lV.fail HI.out X2.out 62
 | true=>
 have HT:=aA (show sU K a.now on from_ r=lK K a.now on from_ r from by rw [zhs.out.turn,HF.out];rfl)
 have D0:=aA d0
 have Cu:=aA (fun (w2:World) (x2:aD w w2)=>(show w2.cell? ⟨d,6,none⟩=some (.slice U.a.oA a.now.ons.length U.a.oC)∧w2.cell? ⟨d,7,none⟩=some (.slice U.a.sA a.now.sides.length U.a.sC)∧w2.cell? ⟨d,8,none⟩=some (.slice U.a.cA a.now.cnt.length U.a.cC)∧w2.cell? ⟨d,9,none⟩=some (.slice U.a.lA a.now.live.length U.a.lC) from ⟨(HB.out.ext x2).cell 6,(HB.out.ext x2).cell 7,(HB.out.ext x2).cell 8,(HB.out.ext x2).cell 9⟩))
 clear d0 d1 d3 HF
 go_upto_region 8 with ((with_reducible refine HV.out.mono ?_);rintro e w2 ⟨rfl,x2⟩;have X2:=aA x2;obtain ⟨e6,e7,e8,e9⟩:=Cu.out w2 x2;clear x2)
 go_upto_region 9 with fail
 obtain ⟨g8,zb7⟩ : ∃ g8,w2.heap.size=g8:=⟨_,rfl⟩
 obtain ⟨w3,hw3⟩ : ∃ w3,w2.alloc (.cells #[.slice U.a.oA a.now.ons.length U.a.oC,.slice U.a.sA a.now.sides.length U.a.sC,.slice U.a.cA a.now.cnt.length U.a.cC,.slice U.a.lA a.now.live.length U.a.lC] 66)=w3:=⟨_,rfl⟩
 have fQ:=aL.new w2 66 (Fi a.now U.a)
 have zfk:=aD.alloc w2 (.cells (Fi a.now U.a) 66)
 have qh:w3.heap.size=g8+1:=by rw [← hw3];simp;omega
 rw [zb7,hw3]
 unfold Fi at fQ zfk
 rw [zb7] at fQ
 rw [hw3] at fQ zfk
 have X3:=aA (X2.out.trans zfk)
 have Sc:=aA fQ
 have zce:=aA (show w.heap.size≤g8∧w3.heap.size=g8+1 from ⟨by have:=X2.out.size;omega,qh⟩)
 clear fQ zfk qh zb7 hw3 e6 e7 e8 e9
 have zcz:=aA (Gy (HI.out.base.ext X3.out))
 go_upto_if 65 with ((with_reducible refine zcz.out.mono ?_);rintro e w4 ⟨Aw,cw,rfl,o4,x4⟩;have X4:=aA (X3.out.trans x4);have O4:=aA o4;have B4:=aA (Sc.out.ext x4);have d0:=(X3.out.trans x4).cell D0.out;clear o4 x4)
 have pX:=aA HI.out.base.lt
 go_cut [14] from 22 to 219 (fun s14 wx=>∃ (s1:cR) (L1:Dq) (e:Int),s14=.int .i64 e∧Hid (zdq P K a.now on from_ r w.heap.size g8 w4 s1 L1 e wx))
 case first=>as_aux_lemma=>(
  have b0:w4.cell? ⟨g8,0,none⟩=some (.slice U.a.oA a.now.ons.length U.a.oC):=B4.out.cell 0
  have b1:w4.cell? ⟨g8,1,none⟩=some (.slice U.a.sA a.now.sides.length U.a.sC):=B4.out.cell 1
  have b2:w4.cell? ⟨g8,2,none⟩=some (.slice U.a.cA a.now.cnt.length U.a.cC):=B4.out.cell 2
  have b3:w4.cell? ⟨g8,3,none⟩=some (.slice U.a.lA a.now.live.length U.a.lC):=B4.out.cell 3
  have b0:=aB b0;have b1:=aB b1;have b2:=aB b2;have b3:=aB b3
  have ww:=HB.out.ext X4.out
  have d2:w4.cell? ⟨d,2,none⟩=some (.slice U.kA K.keep.length U.kC):=ww.cell 2
  have d5:w4.cell? ⟨d,5,none⟩=some (.int .i64 (K.most:Nat)):=ww.cell 5
  have d2:=aB d2;have d5:=aB d5
  clear ww
  by_cases k2:K.kind=2
  ·have q2:((K.kind:Int) == 2)=true:=by simp [k2]
   have nC:=aA (show gM K a.now on from_ r=eY a.now on (aE K.keep r) K.most from by unfold gM;rw [if_pos k2])
   have Sk:=aA (show a.now.cnt.length=a.now.ons.length from HI.out.base.sz.cnt k2)
   obtain ⟨t,ht⟩ : ∃ t,eY a.now on (aE K.keep r) K.most=t:=⟨_,rfl⟩
   rw [ht] at nC
   have Vd:=aA (fun (w5:World) (x5:aD w4 w5)=>y8 c U.kC (HA.out.at_.ext (X4.out.trans x5)) (HI.out.base.keep.num.ext (X4.out.trans x5)) HA.out.len (by have:=HI.out.base.ok.keep.1;omega))
   have zjc:=aA (fun (w5 w6:World) (A5:Option Addr) (c5:Nat) (x5:aD w4 w5) (x6:aD w5 w6) (gU:RB (fun b=>w5.heap.size≤b∧b<w6.heap.size) w6 [.slice A5 (aE K.keep r).length c5] (aE K.keep r))=>(show Calls Tryz.prog 42 #[.agg #[.slice U.a.oA a.now.ons.length U.a.oC,.slice U.a.sA a.now.sides.length U.a.sC,.slice U.a.cA a.now.cnt.length U.a.cC,.slice U.a.lA a.now.live.length U.a.lC],.bool on,.slice A5 (aE K.keep r).length c5,.int .i64 (K.most:Nat)] w6 fun e w'=>∃ L,e=.returned (.tuple #[.agg #[.slice L.oA t.1.ons.length L.oC,.slice L.sA t.1.sides.length L.sC,.slice L.cA t.1.cnt.length L.cC,.slice L.lA t.1.live.length L.lC],.int .i64 t.2])∧jC w' (fun b=>P b∨w.heap.size≤b) t.1 L∧aD w6 w' from by
    have hx:=X4.out.trans (x5.trans x6)
    have h5:=(X4.out.trans x5).size
    have hc:=Th (P:=And' P w.heap.size w6.heap.size) c5 on (most:=K.most) (HI.out.base.now.keep (aF.of hx) fun _ hb=>.inl hb) HI.out.base.sz.ons Sk.out (gU.mono fun b hb=>.inr ⟨Nat.le_trans h5 hb.1,hb.2⟩) HI.out.base.sz.cle.2 (by have:=Gz K.keep r;have:=HI.out.base.ok.keep.1;omega) fun b hb=>hb.elim (fun hb=>Nat.lt_of_lt_of_le (pX.out b hb) hx.size) fun hb=>hb.2
    rw [ht] at hc
    refine hc.mono ?_
    rintro e w7 ⟨L,rfl,hd,x7⟩
    exact ⟨L,rfl,hd.keep (aF.refl _ _) fun b hb=>hb.elim (fun hb=>hb.imp id fun hb=>hb.1) fun hb=>.inr (Nat.le_trans hx.size hb.1),x7⟩))
   clear k2 ht
   go_upto_region 12 with fail
   refine qI [(1,true),(2,true),(3,true),(4,true),(5,true),(6,true),(7,true),(9,true),(10,true),(11,true),(12,true),(13,true)] 0 8 [(14,false),(15,true),(16,true),(17,true),(18,false),(19,true)] (fun w'=>w'.cell? ⟨d,2,none⟩=some (.slice U.kA K.keep.length U.kC)∧w'.cell? ⟨d,5,none⟩=some (.int .i64 (K.most:Nat))) (by kernel_rfl) (by kernel_rfl) (fun _ _ _ _ _ h=>h) ?_ ?_
   ·exact fun w' hw'=>⟨d2 w' hw',d5 w' hw'⟩
   intro wq hwq
   have HQ:=aA hwq
   have zh0:=aA (Vd.out wq hwq)
   iterate 12
    unfold rM
    refine ⟨_,rfl,?_⟩
    apply Exists.intro
    refine ⟨.inl ⟨by rfl,fun w9 h9=>?_⟩,fun K hK=>?_⟩
    ·go_simp;first | done | rfl
    go_simp;refine hK _ ?_;clear hK K
   unfold rM
   have zeR:=aA (fun w' (hw':aD w4 w')=>(show w'.cell? ⟨d,2,none⟩=some (.slice U.kA K.keep.length U.kC)∧w'.cell? ⟨d,5,none⟩=some (.int .i64 (K.most:Nat)) from ⟨d2 w' hw',d5 w' hw'⟩))
   clear d2 d5
   have c0:=b0 wq hwq;have c1:=b1 wq hwq;have c2:=b2 wq hwq;have c3:=b3 wq hwq
   refine ⟨?_,?_⟩
   all_goals (
    refine ⟨_,_,rfl,rfl,?_⟩
    go_wp2_with ((with_reducible refine zh0.out.mono ?_);rintro e w5 ⟨A5,c5,rfl,o5,x5⟩;have X5:=aA x5;have zfg:=aA (bD.rb o5);have c0:=x5.cell c0;have c1:=x5.cell c1;have c2:=x5.cell c2;have c3:=x5.cell c3;clear o5 x5)
    simp only [kB]
    refine ⟨by first | exact zeR.out wq HQ.out | exact zeR.out w5 (HQ.out.trans X5.out),?_⟩
    go_wp2_with ((with_reducible refine zh0.out.mono ?_);rintro e w5 ⟨A5,c5,rfl,o5,x5⟩;have X5:=aA x5;have zfg:=aA (bD.rb o5);have c0:=x5.cell c0;have c1:=x5.cell c1;have c2:=x5.cell c2;have c3:=x5.cell c3;clear o5 x5)
    simp only [kB]
    refine ⟨zeR.out w5 (HQ.out.trans X5.out),?_⟩
    have Tn:=aA (zjc.out wq w5 A5 c5 HQ.out X5.out zfg.out)
    unfold dO
    refine ⟨_,rfl,?_⟩
    go_wp2_with ((with_reducible refine Tn.out.mono ?_);rintro e w6 ⟨L6,rfl,h6,x6⟩;have X6:=aA (HQ.out.trans (X5.out.trans x6));have H6:=aA h6;clear h6 x6)
    simp only [kB]
    refine ⟨zeR.out w6 X6.out,?_⟩
    clear c0 c1 c2 c3
    iterate 3
     unfold dO
     refine ⟨_,rfl,?_⟩
     apply Exists.intro
     refine ⟨.inl ⟨by rfl,fun w9 h9=>?_⟩,fun K hK=>?_⟩
     ·go_simp;first | done | rfl
     go_simp;refine hK _ ?_;clear hK K
    have B6:=aA (B4.out.ext X6.out)
    have e0:_=some (Value.slice U.a.oA a.now.ons.length U.a.oC):=B6.out.cell 0
    have e1:_=some (Value.slice U.a.sA a.now.sides.length U.a.sC):=B6.out.cell 1
    have e2:_=some (Value.slice U.a.cA a.now.cnt.length U.a.cC):=B6.out.cell 2
    have e3:_=some (Value.slice U.a.lA a.now.live.length U.a.lC):=B6.out.cell 3
    have f0:=B6.out.frozen 0;have f1:=B6.out.frozen 1;have f2:=B6.out.frozen 2;have f3:=B6.out.frozen 3
    unfold dO
    refine ⟨_,rfl,?_⟩
    go_wp2_with fail
    simp only [kB]
    have ze5:d≠g8:=by have:=pX.out d HI.out.base.inP;have:=zce.out.1;omega
    have ziW:=((((HB.out.ext (X4.out.trans X6.out)).far (p:=⟨g8,0,none⟩) ze5 (.slice L6.oA t.1.ons.length L6.oC)).far (p:=⟨g8,1,none⟩) ze5 (.slice L6.sA t.1.sides.length L6.sC)).far (p:=⟨g8,2,none⟩) ze5 (.slice L6.cA t.1.cnt.length L6.cC)).far (p:=⟨g8,3,none⟩) ze5 (.slice L6.lA t.1.live.length L6.lC)
    refine ⟨⟨ziW.cell 2,ziW.cell 5⟩,?_⟩
    unfold dO
    refine ⟨_,rfl,?_⟩
    apply Exists.intro
    refine ⟨.inl ⟨by rfl,fun w9 h9=>?_⟩,fun K hK=>?_⟩
    ·go_simp;first | done | rfl
    go_simp;refine hK _ ?_;clear hK K
    unfold dO
    go_wp2_with fail
    go_meet
    have z1:=B6.out.set_ 0 (.slice L6.oA t.1.ons.length L6.oC);have z2:=z1.set_ 1 (.slice L6.sA t.1.sides.length L6.sC);have z3:=z2.set_ 2 (.slice L6.cA t.1.cnt.length L6.cC)
    exact ⟨t.1,L6,t.2,rfl,nC.out,z3.set_ 3 _,(((H6.out.farS B6.out 0 _).farS z1 1 _).farS z2 2 _).farS z3 3 _,(((aF.atD (aF.of X6.out) 0 _).atD 1 _).atD 2 _).atD 3 _⟩)
  ·have q2:((K.kind:Int) == 2)=false:=by simp;omega
   by_cases f2:from_=2
   ·have q3:(from_ == 2)=true:=by simp [f2]
    have nC:=aA (show gM K a.now on from_ r=({a.now with sides:=(iH a.now.sides on r K.most).1},(iH a.now.sides on r K.most).2) from by unfold gM;rw [if_neg k2,if_pos f2])
    obtain ⟨p,hp⟩ : ∃ p,iH a.now.sides on r K.most=p:=⟨_,rfl⟩
    rw [hp] at nC
    have zgi:=aA (fun (w5:World) (x5:aD w4 w5)=>(show Calls Tryz.prog 44 #[.slice U.a.sA a.now.sides.length U.a.sC,.bool on,.slice Ar r.length c,.int .i64 (K.most:Nat)] w5 fun e w'=>∃ A' c',e=.returned (.tuple #[.slice A' p.1.length c',.int .i64 p.2])∧cY w' (fun b=>P b∨w.heap.size≤b) A' p.1.length c' p.1∧aD w5 w' from by
     have hx:=X4.out.trans x5
     refine (I2 c (HI.out.base.now.sides.ext hx (Q:=P) fun _ h=>h) HI.out.base.sz.sides.1 HI.out.base.sz.sides.2 (fun b hb=>Nat.lt_of_lt_of_le (pX.out b hb) hx.size) (HA.out.ext hx) on K.most).mono ?_
     rintro e w6 ⟨A6,c6,rfl,t6,x6⟩
     rw [hp] at t6 ⊢
     exact ⟨A6,c6,rfl,t6.keep (aF.refl _ _) fun b hb=>hb.imp id fun h=>Nat.le_trans hx.size h.1,x6⟩))
    clear f2 k2 hp
    go_upto_region 14 with fail
    refine bW [(0,true),(2,true),(3,true),(4,true),(5,true),(6,true),(7,true),(8,true),(1,false),(9,false),(10,true),(11,true),(12,true),(13,true),(14,false),(15,true)] (fun w'=>w'.cell? ⟨d,5,none⟩=some (.int .i64 (K.most:Nat))) (by kernel_rfl) (by kernel_rfl) (fun _ _ _ _ _ h=>h) ?_ ?_
    ·exact fun w' hw'=>d5 w' hw'
    intro wq hwq
    have HQ:=aA hwq
    have qw:=aA (zgi.out wq hwq)
    have c1:=b1 wq hwq
    iterate 8
     unfold dO
     refine ⟨_,rfl,?_⟩
     apply Exists.intro
     refine ⟨.inl ⟨by rfl,fun w9 h9=>?_⟩,fun K hK=>?_⟩
     ·go_simp;first | done | rfl
     go_simp;refine hK _ ?_;clear hK K
    unfold dO
    refine ⟨_,rfl,?_⟩
    go_wp2_with fail
    simp only [kB]
    refine ⟨d5 wq HQ.out,?_⟩
    unfold dO
    refine ⟨_,rfl,?_⟩
    go_wp2_with ((with_reducible refine qw.out.mono ?_);rintro e w6 ⟨A6,c6,rfl,t6,x6⟩;have T6:=aA t6;have X6:=aA (HQ.out.trans x6);clear t6 x6)
    simp only [kB]
    refine ⟨d5 w6 X6.out,?_⟩
    iterate 4
     unfold dO
     refine ⟨_,rfl,?_⟩
     apply Exists.intro
     refine ⟨.inl ⟨by rfl,fun w9 h9=>?_⟩,fun K hK=>?_⟩
     ·go_simp;first | done | rfl
     go_simp;refine hK _ ?_;clear hK K
    have B6:=aA (B4.out.ext X6.out)
    have c6':_=some (Value.slice U.a.sA a.now.sides.length U.a.sC):=B6.out.cell 1
    have f6:=B6.out.frozen 1
    unfold dO
    refine ⟨_,rfl,?_⟩
    go_wp2_with fail
    simp only [kB]
    refine ⟨((HB.out.ext (X4.out.trans X6.out)).far (p:=⟨g8,1,none⟩) (by show d≠g8;have:=pX.out d HI.out.base.inP;have:=zce.out.1;omega) _).cell 5,?_⟩
    unfold dO
    refine ⟨_,rfl,?_⟩
    apply Exists.intro
    refine ⟨.inl ⟨by rfl,fun w9 h9=>?_⟩,fun K hK=>?_⟩
    ·go_simp;first | done | rfl
    go_simp;refine hK _ ?_;clear hK K
    unfold dO
    go_wp2_with fail
    go_meet
    have hn:=HI.out.base.now.keep (aF.of (X4.out.trans X6.out)) (Q:=fun b=>P b∨w.heap.size≤b) fun _ hb=>.inl hb
    refine ⟨_,{U.a with sA:=A6,sC:=c6},_,rfl,nC.out,B6.out.set_ 1 (.slice A6 p.1.length c6),jC.farS ?_ B6.out 1 (.slice A6 p.1.length c6),aF.atD (aF.of X6.out) 1 _⟩
    exact ⟨hn.ons,T6.out,hn.cnt,hn.live⟩
   ·have q3:(from_ == 2)=false:=by simp [f2]
    have nC:=aA (show gM K a.now on from_ r=({a.now with ons:=(iH a.now.ons on r K.most).1},(iH a.now.ons on r K.most).2) from by unfold gM;rw [if_neg k2,if_neg f2])
    obtain ⟨p,hp⟩ : ∃ p,iH a.now.ons on r K.most=p:=⟨_,rfl⟩
    rw [hp] at nC
    have zgi:=aA (fun (w5:World) (x5:aD w4 w5)=>(show Calls Tryz.prog 44 #[.slice U.a.oA a.now.ons.length U.a.oC,.bool on,.slice Ar r.length c,.int .i64 (K.most:Nat)] w5 fun e w'=>∃ A' c',e=.returned (.tuple #[.slice A' p.1.length c',.int .i64 p.2])∧cY w' (fun b=>P b∨w.heap.size≤b) A' p.1.length c' p.1∧aD w5 w' from by
     have hx:=X4.out.trans x5
     refine (I2 c (HI.out.base.now.ons.ext hx (Q:=P) fun _ h=>h) HI.out.base.sz.ons.1 HI.out.base.sz.ons.2 (fun b hb=>Nat.lt_of_lt_of_le (pX.out b hb) hx.size) (HA.out.ext hx) on K.most).mono ?_
     rintro e w6 ⟨A6,c6,rfl,t6,x6⟩
     rw [hp] at t6 ⊢
     exact ⟨A6,c6,rfl,t6.keep (aF.refl _ _) fun b hb=>hb.imp id fun h=>Nat.le_trans hx.size h.1,x6⟩))
    clear f2 k2 hp
    go_upto_region 15 with fail
    refine bW [(0,true),(2,true),(3,true),(4,true),(5,true),(6,true),(7,true),(8,true),(1,false),(9,false),(10,true),(11,true),(12,true),(13,true),(14,false),(15,true)] (fun w'=>w'.cell? ⟨d,5,none⟩=some (.int .i64 (K.most:Nat))) (by kernel_rfl) (by kernel_rfl) (fun _ _ _ _ _ h=>h) ?_ ?_
    ·exact fun w' hw'=>d5 w' hw'
    intro wq hwq
    have HQ:=aA hwq
    have qw:=aA (zgi.out wq hwq)
    have c1:=b0 wq hwq
    iterate 8
     unfold dO
     refine ⟨_,rfl,?_⟩
     apply Exists.intro
     refine ⟨.inl ⟨by rfl,fun w9 h9=>?_⟩,fun K hK=>?_⟩
     ·go_simp;first | done | rfl
     go_simp;refine hK _ ?_;clear hK K
    unfold dO
    refine ⟨_,rfl,?_⟩
    go_wp2_with fail
    simp only [kB]
    refine ⟨d5 wq HQ.out,?_⟩
    unfold dO
    refine ⟨_,rfl,?_⟩
    go_wp2_with ((with_reducible refine qw.out.mono ?_);rintro e w6 ⟨A6,c6,rfl,t6,x6⟩;have T6:=aA t6;have X6:=aA (HQ.out.trans x6);clear t6 x6)
    simp only [kB]
    refine ⟨d5 w6 X6.out,?_⟩
    iterate 4
     unfold dO
     refine ⟨_,rfl,?_⟩
     apply Exists.intro
     refine ⟨.inl ⟨by rfl,fun w9 h9=>?_⟩,fun K hK=>?_⟩
     ·go_simp;first | done | rfl
     go_simp;refine hK _ ?_;clear hK K
    have B6:=aA (B4.out.ext X6.out)
    have c6':_=some (Value.slice U.a.oA a.now.ons.length U.a.oC):=B6.out.cell 0
    have f6:=B6.out.frozen 0
    unfold dO
    refine ⟨_,rfl,?_⟩
    go_wp2_with fail
    simp only [kB]
    refine ⟨((HB.out.ext (X4.out.trans X6.out)).far (p:=⟨g8,0,none⟩) (by show d≠g8;have:=pX.out d HI.out.base.inP;have:=zce.out.1;omega) _).cell 5,?_⟩
    unfold dO
    refine ⟨_,rfl,?_⟩
    apply Exists.intro
    refine ⟨.inl ⟨by rfl,fun w9 h9=>?_⟩,fun K hK=>?_⟩
    ·go_simp;first | done | rfl
    go_simp;refine hK _ ?_;clear hK K
    unfold dO
    go_wp2_with fail
    go_meet
    have hn:=HI.out.base.now.keep (aF.of (X4.out.trans X6.out)) (Q:=fun b=>P b∨w.heap.size≤b) fun _ hb=>.inl hb
    refine ⟨_,{U.a with oA:=A6,oC:=c6},_,rfl,nC.out,B6.out.set_ 0 (.slice A6 p.1.length c6),jC.farS ?_ B6.out 0 (.slice A6 p.1.length c6),aF.atD (aF.of X6.out) 0 _⟩
    exact ⟨T6.out,hn.sides,hn.cnt,hn.live⟩)
 case rest=>
 obtain ⟨s1,L1,e,rfl,nC⟩:=hcut
 have X5:=aA (nC.out.2.2.2.ext X4.out fun b hb=>by have:=zce.out.1;omega)
 have O5:=aA (O4.out.chg nC.out.2.2.2 fun b hb hx=>by have:=zce.out.2;omega)
 have zdF:=HB.out.ext X5.out
 have d6:wc.cell? ⟨d,6,none⟩=some (.slice U.a.oA a.now.ons.length U.a.oC):=zdF.cell 6
 have d7:wc.cell? ⟨d,7,none⟩=some (.slice U.a.sA a.now.sides.length U.a.sC):=zdF.cell 7
 have d8:wc.cell? ⟨d,8,none⟩=some (.slice U.a.cA a.now.cnt.length U.a.cC):=zdF.cell 8
 have d9:wc.cell? ⟨d,9,none⟩=some (.slice U.a.lA a.now.live.length U.a.lC):=zdF.cell 9
 clear zdF d0
 by_cases he:¬ e=0
 ·have q:(e != 0)=true:=by simpa using he
  have zm:=aA (HT.out.trans (show lK K a.now on from_ r=(a.now,[],[],e) from by unfold lK;rw [nC.out.1];exact if_neg he))
  clear he d6 d7 d8 d9
  go_wp2_with fail
  go_ret3
  rw [zm.out]
  exact lV.fail HI.out X5.out e
 obtain rfl:e=0:=Classical.not_not.1 he
 have xf:=aA (HT.out.trans (show lK K a.now on from_ r=tQ K a.now s1 on from by unfold lK;rw [nC.out.1];exact if_pos rfl))
 clear he HT
 go_upto_region 19 with fail
 obtain ⟨gb,hgb⟩ : ∃ gb,wc.heap.size=gb:=⟨_,rfl⟩
 obtain ⟨w6,hw6⟩ : ∃ w6,wc.alloc (.cells #[.slice U.a.oA a.now.ons.length U.a.oC,.slice U.a.sA a.now.sides.length U.a.sC,.slice U.a.cA a.now.cnt.length U.a.cC,.slice U.a.lA a.now.live.length U.a.lC] 66)=w6:=⟨_,rfl⟩
 have zbG:=aL.new wc 66 (Fi a.now U.a)
 have zak:=aD.alloc wc (.cells (Fi a.now U.a) 66)
 have zcs:w6.heap.size=gb+1:=by rw [← hw6];simp;omega
 rw [hgb,hw6]
 unfold Fi at zbG zak
 rw [hgb] at zbG
 rw [hw6] at zbG zak
 have X6:=aA (X5.out.trans zak)
 have zcg:=aA zbG
 have zhM:=aA (show wc.heap.size=gb∧w6.heap.size=gb+1 from ⟨hgb,zcs⟩)
 have W4:=aA (HB.out.ext X6.out)
 have B6:=aA (nC.out.2.1.ext zak)
 have L6:=aA (nC.out.2.2.1.keep (aF.of zak) (Q:=fun b=>P b∨w.heap.size≤b) fun _ h=>h)
 have O6:=aA (O5.out.ext zak)
 have b0:w6.cell? ⟨g8,0,none⟩=some (.slice L1.oA s1.ons.length L1.oC):=B6.out.cell 0
 have b1:w6.cell? ⟨g8,1,none⟩=some (.slice L1.sA s1.sides.length L1.sC):=B6.out.cell 1
 have b2:w6.cell? ⟨g8,2,none⟩=some (.slice L1.cA s1.cnt.length L1.cC):=B6.out.cell 2
 have b3:w6.cell? ⟨g8,3,none⟩=some (.slice L1.lA s1.live.length L1.lC):=B6.out.cell 3
 have d6:w6.cell? ⟨d,6,none⟩=some (.slice U.a.oA a.now.ons.length U.a.oC):=W4.out.cell 6
 have d7:w6.cell? ⟨d,7,none⟩=some (.slice U.a.sA a.now.sides.length U.a.sC):=W4.out.cell 7
 have d8:w6.cell? ⟨d,8,none⟩=some (.slice U.a.cA a.now.cnt.length U.a.cC):=W4.out.cell 8
 have d9:w6.cell? ⟨d,9,none⟩=some (.slice U.a.lA a.now.live.length U.a.lC):=W4.out.cell 9
 have f6:=W4.out.frozen 6;have f7:=W4.out.frozen 7;have f8:=W4.out.frozen 8;have f9:=W4.out.frozen 9
 clear zbG zak zcs hgb hw6 zcz HV Zy
 go_upto_region 21 with fail
 have oY:=W4.out.set_ 6 (.slice L1.oA s1.ons.length L1.oC);have vS:=oY.set_ 7 (.slice L1.sA s1.sides.length L1.sC);have qm:=vS.set_ 8 (.slice L1.cA s1.cnt.length L1.cC);have zU:=qm.set_ 9 (.slice L1.lA s1.live.length L1.lC);have Il:=zU.set_ 9 (.slice none 0 0)
 have zhG:=((((aF.refl (fun b=>b=d) w6).atD 6 (.slice L1.oA s1.ons.length L1.oC)).atD 7 (.slice L1.sA s1.sides.length L1.sC)).atD 8 (.slice L1.cA s1.cnt.length L1.cC)).atD 9 (.slice L1.lA s1.live.length L1.lC) |>.atD 9 (.slice none 0 0)
 have ziF:=aA (show aL (((((w6.setCell ⟨d,6,none⟩ (.slice L1.oA s1.ons.length L1.oC)).setCell ⟨d,7,none⟩ (.slice L1.sA s1.sides.length L1.sC)).setCell ⟨d,8,none⟩ (.slice L1.cA s1.cnt.length L1.cC)).setCell ⟨d,9,none⟩ (.slice L1.lA s1.live.length L1.lC)).setCell ⟨d,9,none⟩ (.slice none 0 0)) d 70 (Gt K {s1 with live:=[]} a.old.isSome {U with a:={L1 with lA:=none,lC:=0}}) from Il)
 have oR:=aA zhG
 clear oY vS qm zU Il zhG b0 b1 b2 b3 d6 d7 d8 d9 f6 f7 f8 f9
 generalize (((((w6.setCell ⟨d,6,none⟩ (.slice L1.oA s1.ons.length L1.oC)).setCell ⟨d,7,none⟩ (.slice L1.sA s1.sides.length L1.sC)).setCell ⟨d,8,none⟩ (.slice L1.cA s1.cnt.length L1.cC)).setCell ⟨d,9,none⟩ (.slice L1.lA s1.live.length L1.lC)).setCell ⟨d,9,none⟩ (.slice none 0 0))=wL at *
 have vX:iS K {s1 with live:=Je K a.now s1 on}:=by
  have h1:=Hj HI.out.base.ok HI.out.nok on from_ HA.out.small HA.out.wf
  rw [← Fs HI.out.nok,xf.out] at h1
  exact h1
 have oZ:=zx HI.out.base.ok HI.out.base.sz nC.out.1 vX
 have Yi:=zcW HI.out X6.out L6.out O6.out (by have:=zce.out;omega) W4.out zcg.out (by have:=X5.out.size;have:=zhM.out.1;omega) oR.out oZ
 have ze2:=zeq (s1:=s1) (mk:=a.old.isSome) (U:=U) (L1:=L1) (PL:=fun b=>(P b∨w.heap.size≤b)∧b<wL.heap.size∧b≠d) ziF.out
 have Vn:∃ R:Nat→Prop,R=(fun b=>(P b∨w.heap.size≤b)∧b<wL.heap.size∧b≠d)∧∀ b,R b→P b∨w.heap.size≤b:=⟨_,rfl,fun b hb=>hb.1⟩
 have zhC:=aA (show w.heap.size≤wL.heap.size∧aF (fun b=>b=d) w wL from ⟨by have:=X6.out.size;have:=oR.out.size;omega,(aF.of X6.out).trans oR.out fun b hb _=>hb⟩)
 have xK:=aA vX;have iZ:=aA oZ
 obtain ⟨PL,hPL,Vn⟩:=Vn
 rw [← hPL] at Yi ze2
 clear hPL
 generalize ({U with a:={L1 with lA:=none,lC:=0}}:lS)=U1 at Yi ze2
 have r9:=aA Yi;have ziA:=aA ze2;have qw:=aA Vn
 clear vX oZ Yi ze2 Vn X6 L6 O6 W4 zcg ziF oR X5 O5 B6 zhM nC X4 O4 B4 pX Sc X3 X2 Cu D0
 have lP:=HI.out.nok.liveLen HI.out.base.ok
 obtain ⟨nl,hnl2⟩ : ∃ nl,a.now.live.length=nl:=⟨_,rfl⟩
 rw [hnl2] at lP
 have Nu:=aA hnl2
 have Vk:wL.cell? ⟨gb,0,none⟩=some (.slice U.a.oA a.now.ons.length U.a.oC):=r9.out.bef.cell 0
 have ze6:=aA (fun (w':World) (hk:bU PL wL w')=>(show w'.cell? ⟨gb,0,none⟩=some (.slice U.a.oA a.now.ons.length U.a.oC) from hk.cell Vk fun hn=>hn r9.out.befP))
 clear Vk
 have zgc:wL.cell? ⟨gb,3,none⟩=some (.slice U.a.lA a.now.live.length U.a.lC):=r9.out.bef.cell 3
 rw [hnl2] at zgc
 have zeE:=aA (fun (w':World) (hk:bU PL wL w')=>(show w'.cell? ⟨gb,3,none⟩=some (.slice U.a.lA nl U.a.lC) from hk.cell zgc fun hn=>hn r9.out.befP))
 clear hnl2 zgc
 obtain ⟨i0,eQ,hz0,hz1,eO⟩:=info_parts tU
 go_wp2_with fail
 go_loopw [16] (fun s16 w'=>∃ (i:Nat) (Am:Option Addr) (nm cm:Nat),i≤nl∧s16=.int .i64 i∧nm≤i∧Hid (TI wL PL d K s1 a.old.isSome U1 none 0 0 [] none 0 0 [] Am nm cm (pU K a.now s1 i) w')) (fun s16 _=>nl - (intOf s16).toNat)
 case atStart=>exact ⟨0,none,0,0,by omega,rfl,by omega,ziA.out⟩
 case round=>
  clear ziA
  obtain ⟨i,Am,nm,cm,him,rfl,hni,hT⟩:=hrel
  have hk:=r9.out.keeps hT.out
  have c3:=zeE.out wr hk
  by_cases hi:i<nl
  ·as_aux_lemma=>(
    have zbT:(i:Int)<(nl:Int):=by omega
    obtain ⟨x,hx⟩ : ∃ x,a.now.live[i]?=some x:=⟨_,List.getElem?_eq_getElem (by have:=Nu.out;omega)⟩
    obtain ⟨b,off,A9,c9,hA9,hc9,gU,hPb⟩:=(r9.out.was.live.keep hk fun _ h=>h).rbP hx
    have Zl:=HI.out.base.sz.live.2 x (List.mem_of_getElem? hx)
    rw [hA9] at c3
    have pK:=rR (r9.out.doc hT.out (Jr HI.out.base.sz i)) c9 gU.at_ (by omega)
    rw [show bG K {s1 with live:=pU K a.now s1 i} x=bG K s1 x from rfl] at pK
    have rT:=Ny (K:=K) (s1:=s1) hx
    have dH:=aA gU
    obtain ⟨xl,Gh⟩ : ∃ xl,x.length=xl:=⟨_,rfl⟩
    rw [Gh] at pK hc9 dH
    obtain ⟨bz,hbz⟩ : ∃ bz,bG K s1 x=bz:=⟨_,rfl⟩
    rw [hbz] at pK rT
    have zg2:=aA pK;have Cf:=aA rT
    have zcc:=aA (fun (w':World) (jT:bU PL wr w')=>(show w'.cell? ⟨gb,3,none⟩=some (.slice (some ⟨b,off,none⟩) nl U.a.lC)∧w'.cell? ⟨b,off+i,none⟩=some (.slice A9 xl c9) from ⟨jT.cell c3 fun hn=>hn r9.out.befP,jT.cell hc9 fun hn=>hn hPb⟩))
    clear hx gU Zl pK rT Gh hbz hk hPb hA9
    cases bz with
    |false=>
     have rT:=Cf.out
     rw [if_neg (by decide),List.append_nil] at rT
     have Nx:=aA rT
     clear rT Cf
     go_wp2_with ((with_reducible refine zg2.out.mono ?_);rintro e w7 ⟨rfl,x7⟩;have T7:=aA (hT.out.ext x7);clear x7)
     go_roundw
     case rel=>
      exact ⟨i+1,Am,nm,cm,by omega,by go_num,by omega,by rw [Nx.out];exact T7.out⟩
     case measure=>simp [intOf];omega
    |true=>
     have rT:=Cf.out
     rw [if_pos rfl] at rT
     have Nx:=aA rT
     clear rT Cf
     go_upto_region 25 with ((with_reducible refine zg2.out.mono ?_);rintro e w7 ⟨rfl,x7⟩;have T7:=aA (hT.out.ext x7);have K7:=aA (show bU PL wr w7 from aF.of x7);clear x7)
     refine qI [(0,true),(1,true),(2,true),(3,true),(4,true),(6,true),(7,true),(8,true),(9,true),(10,true)] 5 11 [(12,false),(13,true),(14,true),(15,true),(16,false)] (fun w'=>w'.cell? ⟨gb,3,none⟩=some (.slice (some ⟨b,off,none⟩) nl U.a.lC)∧w'.cell? ⟨b,off+i,none⟩=some (.slice A9 xl c9)) (by kernel_rfl) (by kernel_rfl) (fun _ _ _ _ _ h=>h) ?_ ?_
     ·exact fun w' hw'=>zcc.out w' (K7.out.after (aF.of hw') fun _ h=>h)
     intro wq hwq
     have TQ:=aA (T7.out.ext hwq)
     have KQ:=aA (show bU PL wr wq from K7.out.after (aF.of hwq) fun _ h=>h)
     have RQ:=aA (dH.out.keep KQ.out (Q:=PL) fun _ h=>h)
     clear hwq T7 K7 c3 hc9 zg2 dH
     have d9:wq.cell? ⟨d,9,none⟩=some (.slice Am (pU K a.now s1 i).length cm):=TQ.out.blk.cell 9
     rw [← TQ.out.len.2.2] at d9
     iterate 10
      unfold rM
      refine ⟨_,rfl,?_⟩
      apply Exists.intro
      refine ⟨.inl ⟨by rfl,fun w9 h9=>?_⟩,fun K hK=>?_⟩
      ·go_simp;first | done | rfl
      go_simp;refine hK _ ?_;clear hK K
     unfold rM
     have x8:=aD.alloc wq (.cells #[.slice A9 xl c9] 28)
     have zaB:=aA ((aL.new wq 28 #[.slice A9 xl c9]).sl (n:=1) (size:=1) rfl)
     have dG:=aA (show aQ [Value.slice A9 xl c9] from fun v hv=>by simp at hv;rw [hv];rfl)
     have R8:=aA (RQ.out.keep (aF.of x8) (Q:=PL) fun _ h=>h)
     obtain ⟨X,xs,cH,hXl,hpush⟩:=TI.pushM r9.out (TQ.out.ext x8)
     have Gc:=aA cH;have qd:=aA hpush;have l_:=aA hXl
     have X8:=aA x8;have d98:=x8.cell d9
     have B8:=aA (TQ.out.blk.ext x8)
     clear cH hpush hXl x8 TQ RQ
     refine ⟨?_,?_⟩
     all_goals (
      refine ⟨_,_,rfl,rfl,?_⟩
      go_wp2_with fail
      simp only [kB]
      refine ⟨by first | exact zcc.out wq KQ.out | exact zcc.out _ (KQ.out.after (aF.of X8.out) fun _ h=>h),?_⟩
      go_wp2_with fail
      simp only [kB]
      refine ⟨zcc.out _ (KQ.out.after (aF.of X8.out) fun _ h=>h),?_⟩
      unfold dO
      refine ⟨_,rfl,?_⟩
      refine aI rfl (.tmp 148) (.tmp 154) _ rfl _ 28 i0 _ 1 24 Tryz.underlying36 eQ hz0 hz1 eO rfl (by omega) (.slice Am nm cm) nm xs rfl Gc.out _ 1 1 _ rfl zaB.out dG.out (by unfold maxLen;omega) (by omega) ?_
      intro A6 c6 w9 own9 G9 C9
      go_wp2_with fail
      simp only [kB]
      have K9:=aA (show bU PL wr w9 from (KQ.out.after (aF.of X8.out) fun _ h=>h).after (C9.out.mono fun b hb _ hp=>by have:=l_.out b hb;have:=(r9.out.lt b hp).1;omega) fun _ h=>h)
      refine ⟨zcc.out w9 K9.out,?_⟩
      iterate 3
       unfold dO
       refine ⟨_,rfl,?_⟩
       apply Exists.intro
       refine ⟨.inl ⟨by rfl,fun w9 h9=>?_⟩,fun K hK=>?_⟩
       ·go_simp;first | done | rfl
       go_simp;refine hK _ ?_;clear hK K
      have zgG:=C9.out.blk B8.out (fun hx=>by have:=l_.out d hx;have:=r9.out.dlt;omega)
      have e9:w9.cell? ⟨d,9,none⟩=some (.slice Am (pU K a.now s1 i).length cm):=zgG.cell 9
      have f9:=zgG.frozen 9
      have Y_:=aA (qd.out w9 A6 c6 _ x R8.out own9.out C9.out)
      clear zgG own9 G9 C9 qd
      unfold dO
      refine ⟨_,rfl,?_⟩
      go_wp2_with fail
      simp only [kB]
      refine ⟨zcc.out _ (K9.out.after (aF.mono ((aF.refl (fun b=>b=d) w9).atD 9 _) fun b hb _ hp=>(r9.out.lt b hp).2 hb) fun _ h=>h),?_⟩
      unfold dO
      go_wp2_with fail
      go_roundw
      case rel=>
       exact ⟨i+1,A6,nm+1,c6,by omega,by go_num,by omega,by rw [Nx.out];exact Y_.out⟩
      case measure=>simp [intOf];omega))
  ·obtain rfl:i=nl:=by omega
   have zgd:=aA (show TI wL PL d K s1 a.old.isSome U1 none 0 0 [] none 0 0 [] Am nm cm (i5 K a.now s1 on 0) wr from by
    have h:=hT.out
    rw [← Nu.out,Nd K a.now s1 on] at h
    exact h)
   have c0:=ze6.out wr hk
   have d6:wr.cell? ⟨d,6,none⟩=some (.slice U1.a.oA s1.ons.length U1.a.oC):=zgd.out.blk.cell 6
   clear hT hk
   generalize wr=wo at *
   go_upto_if 165 with fail
   clear c3
   go_cut [19] from 22 to 219 (fun s19 wx=>∃ (AL:Option Addr) (ll cL:Nat),s19=.slice AL ll cL∧wo=wx∧Hid (cY wL PL AL ll cL (eM a.now s1 on)))
   case first=>
    have zkd:=aA (show on=true→cY wL PL U1.a.oA s1.ons.length U1.a.oC (eM a.now s1 on) from fun h=>by unfold eM;rw [if_pos h];exact r9.out.ons)
    have zku:=aA (show on=false→cY wL PL U.a.oA a.now.ons.length U.a.oC (eM a.now s1 on) from fun h=>by unfold eM;rw [if_neg (by simp [h])];exact r9.out.was.ons)
    cases on with
    |true=>
     go_wp2_with fail
     go_meet
     exact ⟨_,_,_,rfl,rfl,zkd.out (by first | exact trivial | rfl)⟩
    |false=>
     go_wp2_with fail
     go_meet
     exact ⟨_,_,_,rfl,rfl,zku.out (by first | exact trivial | rfl)⟩
   case rest=>
   obtain ⟨AL,ll,cL,rfl,rfl,zfq⟩:=hcut
   have zbb:=(uD (on:=on) HI.out.base.sz iZ.out).1
   rw [← zfq.out.1] at zbb
   clear c0 d6
   go_wp2_with fail
   go_loopw [17,18,20,21] (fun s17 s18 s20 _ w'=>∃ (j:Nat) (Af:Option Addr) (nf cf:Nat) (At:Option Addr) (nt ct:Nat) (Am:Option Addr) (nm cm:Nat),j≤ll∧s20=.int .i64 j∧s17=.slice Af nf cf∧s18=.slice At nt ct∧nf≤j∧nt≤j∧nm≤i+j∧Hid (TI wL PL d K s1 a.old.isSome U1 Af nf cf (lI K a.now s1 on j) At nt ct (lD K a.now s1 on j) Am nm cm (i5 K a.now s1 on j) w')) (fun _ _ s20 _ _=>ll - (intOf s20).toNat)
   case atStart=>exact ⟨0,none,0,0,none,0,0,Am,nm,cm,by omega,rfl,rfl,rfl,by omega,by omega,by omega,zgd.out⟩
   case round=>
    clear zgd hni
    obtain ⟨j,Af,nf,cf,At,nt,ct,Am,nm,cm,zgX,rfl,rfl,rfl,hnf,hnt,hnm,hT⟩:=hrel
    by_cases hj:j<ll
    ·as_aux_lemma=>(
      have Fz:(j:Int)<(ll:Int):=by omega
      have hk:=r9.out.keeps hT.out
      obtain ⟨x,hx⟩ : ∃ x,(eM a.now s1 on)[j]?=some x:=⟨_,List.getElem?_eq_getElem (by have:=zfq.out.1;omega)⟩
      obtain ⟨b,off,A9,c9,hA9,hc9,gU,-⟩:=(zfq.out.keep hk fun _ h=>h).rbP hx
      have Zl:=(uD (on:=on) HI.out.base.sz iZ.out).2 x (List.mem_of_getElem? hx)
      subst hA9
      have Yj:=Be (K:=K) hx
      have N_:=Lz (K:=K) hx
      have Yu:=Nw (K:=K) hx
      have zcf:∀ M,eL K {s1 with live:=M} x=eL K s1 x:=fun _=>rfl
      have zbf:∀ M,bG K {s1 with live:=M} x=bG K s1 x:=fun _=>rfl
      have qH:=Tp K a.now x
      obtain ⟨v1,hv1⟩ : ∃ v1,eL K s1 x=v1:=⟨_,rfl⟩
      obtain ⟨v0,hv0⟩ : ∃ v0,eL K a.now x=v0:=⟨_,rfl⟩
      obtain ⟨bl,hbl⟩ : ∃ bl,bG K s1 x=bl:=⟨_,rfl⟩
      obtain ⟨bh,hbh⟩ : ∃ bh,inB a.now.live x=bh:=⟨_,rfl⟩
      rw [hv1,hv0] at N_
      rw [hbl,hbh] at Yj Yu
      rw [hv0] at qH
      simp only [hv1] at zcf
      simp only [hbl] at zbf
      obtain ⟨bt,hbt⟩ : ∃ bt,(v1 != v0)=bt:=⟨_,rfl⟩
      rw [hbt] at N_
      have K_:((v1:Int) != (v0:Int))=bt:=by rw [← hbt,Bool.eq_iff_iff];simp;omega
      have Yj:=aA Yj;have N_:=aA N_;have Yu:=aA Yu;have zge:=aA zcf;have zav:=aA zbf;have zhe:=aA qH;have zj7:=aA hbh
      have dH:=aA gU;have Iq:=aA (xV (on:=on) HI.out.base.sz iZ.out (by rw [Nu.out];exact lP) j)
      obtain ⟨xl,Gh⟩ : ∃ xl,x.length=xl:=⟨_,rfl⟩
      rw [Gh] at hc9 dH Zl
      clear hx gU zcf zbf qH hv1 hv0 hbl hbh hbt Gh
      go_upto_region 34 with fail
      clear hc9
      refine bW [(0,true),(1,true),(3,true),(4,true),(5,true),(6,true),(2,false),(7,false),(8,true)] (fun w'=>w'.cell? ⟨gb,0,none⟩=some (.slice U.a.oA a.now.ons.length U.a.oC)) (by kernel_rfl) (by kernel_rfl) (fun _ _ _ _ _ h=>h) ?_ ?_
      ·exact fun w' hw'=>ze6.out w' (hk.after (aF.of hw') fun _ h=>h)
      intro wq hwq
      have TQ:=aA (hT.out.ext hwq)
      have oI:bU PL wr wq:=aF.of hwq
      have zf8:=dH.out.keep oI (Q:=PL) fun _ h=>h
      have Xm:=nJ (r9.out.doc TQ.out Iq.out) c9 zf8.at_ (by omega)
      rw [zge.out] at Xm
      have o_:=aA Xm;have RQ:=aA zf8
      clear hT hwq oI zf8 Xm hk dH
      iterate 6
       unfold dO
       refine ⟨_,rfl,?_⟩
       apply Exists.intro
       refine ⟨.inl ⟨by rfl,fun w9 h9=>?_⟩,fun K hK=>?_⟩
       ·go_simp;first | done | rfl
       go_simp;refine hK _ ?_;clear hK K
      unfold dO
      refine ⟨_,rfl,?_⟩
      go_wp2_with ((with_reducible refine o_.out.mono ?_);rintro e w7 ⟨rfl,x7⟩;have T7:=aA (TQ.out.ext x7);have R7:=aA (RQ.out.keep (aF.of x7) (Q:=PL) fun _ h=>h);clear x7)
      simp only [kB]
      have h_:=r9.out.keeps T7.out
      refine ⟨ze6.out w7 h_,?_⟩
      have zfQ:=Zm cw U.a.oC c9 (cB.own (aJ.chg r9.out.sup h_ fun _ hb hn=>hn hb).own) (r9.out.was.ons.keep h_ (Q:=PL) fun _ h=>h).lat HI.out.base.sz.ons.1 HI.out.base.sz.ons.2 (Nat.le_refl _) R7.out.at_
      rw [zhe.out] at zfQ
      have zie:=aA zfQ
      clear h_ zfQ TQ RQ o_
      unfold dO
      refine ⟨_,rfl,?_⟩
      go_wp2_with ((with_reducible refine zie.out.mono ?_);rintro e w5 ⟨rfl,x5⟩;have T5:=aA (T7.out.ext x5);have R5:=aA (R7.out.keep (aF.of x5) (Q:=PL) fun _ h=>h);clear x5)
      simp only [kB]
      refine ⟨ze6.out w5 (r9.out.keeps T5.out),?_⟩
      unfold dO
      refine ⟨_,rfl,?_⟩
      apply Exists.intro
      refine ⟨.inl ⟨by rfl,fun w9 h9=>?_⟩,fun K hK=>?_⟩
      ·go_simp;first | done | rfl
      go_simp;refine hK _ ?_;clear hK K
      unfold dO
      clear T7 R7 zie
      cases bt
      case' true=>
       have zaw:=N_.out
       rw [if_pos rfl] at zaw
       have zd2:=aA zaw
       have x8:=aD.alloc w5 (.cells #[.slice A9 xl c9] 28)
       have zaB:=aA ((aL.new w5 28 #[.slice A9 xl c9]).sl (n:=1) (size:=1) rfl)
       have dG:=aA (show aQ [Value.slice A9 xl c9] from fun v hv=>by simp at hv;rw [hv];rfl)
       have R8:=aA (R5.out.keep (aF.of x8) (Q:=PL) fun _ h=>h)
       obtain ⟨X,xs,cH,hpush⟩:=TI.pushT r9.out (T5.out.ext x8)
       have Gc:=aA cH;have qd:=aA hpush
       clear zaw cH hpush x8 T5 R5 N_
       go_upto_region 36 with (at_builtin;refine aI rfl (.tmp 187) (.tmp 189) _ rfl _ 28 i0 _ 1 24 Tryz.underlying36 eQ hz0 hz1 eO rfl (by omega) (.slice At nt ct) nt xs rfl Gc.out _ 1 1 _ rfl zaB.out dG.out (by unfold maxLen;omega) (by omega) ?_;intro At2 ct2 w6 own6 G6 C6;have T6:=aA (qd.out w6 At2 ct2 _ x R8.out own6.out C6.out);have R6:=aA (R8.out.grown Gc.out.own G6.out (Q:=PL) fun _ h=>h);clear own6 G6 C6)
       clear qd zaB dG Gc R8
       obtain ⟨nt2,hnt2⟩ : ∃ nt2,nt+1=nt2:=⟨_,rfl⟩
       have T6:=aA (show TI wL PL d K s1 a.old.isSome U1 Af nf cf (lI K a.now s1 on j) At2 nt2 ct2 (lD K a.now s1 on (j+1)) Am nm cm (i5 K a.now s1 on j) w6 from by rw [zd2.out,← hnt2];exact T6.out)
       rw [hnt2]
       have Z9:nt2≤j+1:=by omega
       clear hnt2 zd2
      case' false=>
       have zaw:=N_.out
       rw [if_neg (by decide),List.append_nil] at zaw
       have T6:=aA (show TI wL PL d K s1 a.old.isSome U1 Af nf cf (lI K a.now s1 on j) At nt ct (lD K a.now s1 on (j+1)) Am nm cm (i5 K a.now s1 on j) w5 from by rw [zaw];exact T5.out)
       have R6:=aA R5.out
       clear zaw T5 R5 N_
       go_upto_region 36 with fail
       obtain ⟨At2,rfl⟩ : ∃ z,z=At:=⟨_,rfl⟩
       obtain ⟨nt2,rfl⟩ : ∃ z,z=nt:=⟨_,rfl⟩
       obtain ⟨ct2,rfl⟩ : ∃ z,z=ct:=⟨_,rfl⟩
       obtain ⟨w6,rfl⟩ : ∃ z,z=w5:=⟨_,rfl⟩
       have Z9:nt2≤j+1:=by omega
      all_goals as_aux_lemma=>(
       have zcb:=r9.out.keeps T6.out
       refine bW [(0,true),(1,true),(3,true),(4,true),(5,true),(2,false),(6,false),(7,true)] (fun w'=>w'.cell? ⟨gb,3,none⟩=some (.slice U.a.lA i U.a.lC)) (by kernel_rfl) (by kernel_rfl) (fun _ _ _ _ _ h=>h) ?_ ?_
       ·exact fun w' hw'=>zeE.out w' (zcb.after (aF.of hw') fun _ h=>h)
       intro wq hwq
       have TQ:=aA (T6.out.ext hwq)
       have RQ:=aA (R6.out.keep (aF.of hwq) (Q:=PL) fun _ h=>h)
       have Xm:=rR (r9.out.doc TQ.out Iq.out) c9 RQ.out.at_ (by omega)
       rw [zav.out] at Xm
       have o_:=aA Xm
       clear T6 R6 hwq zcb Xm
       iterate 5
        unfold dO
        refine ⟨_,rfl,?_⟩
        apply Exists.intro
        refine ⟨.inl ⟨by rfl,fun w9 h9=>?_⟩,fun K hK=>?_⟩
        ·go_simp;first | done | rfl
        go_simp;refine hK _ ?_;clear hK K
       unfold dO
       refine ⟨_,rfl,?_⟩
       go_wp2_with ((with_reducible refine o_.out.mono ?_);rintro e w7 ⟨rfl,x7⟩;have T7:=aA (TQ.out.ext x7);have R7:=aA (RQ.out.keep (aF.of x7) (Q:=PL) fun _ h=>h);clear x7)
       simp only [kB]
       have h_:=r9.out.keeps T7.out
       refine ⟨zeE.out w7 h_,?_⟩
       have W_:=yZ a.now.live x U.a.lA A9 a.now.live.length xl U.a.lC c9 w7 (r9.out.was.live.keep h_ (Q:=PL) fun _ h=>h).lat R7.out.at_ (by have:=HI.out.base.sz.live.1;omega) (fun q hq=>by have:=HI.out.base.sz.live.2 q hq;omega)
       rw [Nu.out,zj7.out] at W_
       have Mg:=aA W_
       clear h_ W_ TQ RQ o_
       unfold dO
       refine ⟨_,rfl,?_⟩
       go_wp2_with ((with_reducible refine Mg.out.mono ?_);rintro e w8 ⟨rfl,x8⟩;have T8:=aA (T7.out.ext x8);have R8:=aA (R7.out.keep (aF.of x8) (Q:=PL) fun _ h=>h);clear x8)
       simp only [kB]
       refine ⟨zeE.out w8 (r9.out.keeps T8.out),?_⟩
       unfold dO
       refine ⟨_,rfl,?_⟩
       apply Exists.intro
       refine ⟨.inl ⟨by rfl,fun w9 h9=>?_⟩,fun K hK=>?_⟩
       ·go_simp;first | done | rfl
       go_simp;refine hK _ ?_;clear hK K
       unfold dO
       clear T7 R7 Mg
       cases bl
       case false=>
        cases bh
        case false=>
         have h1:=Yj.out
         rw [if_neg (by decide),List.append_nil] at h1
         have h2:=Yu.out
         rw [if_neg (by decide),List.append_nil] at h2
         have TE:=aA (show TI wL PL d K s1 a.old.isSome U1 Af nf cf (lI K a.now s1 on (j+1)) At2 nt2 ct2 (lD K a.now s1 on (j+1)) Am nm cm (i5 K a.now s1 on (j+1)) w8 from by rw [h1,h2];exact T8.out)
         clear h1 h2 Yj Yu T8 R8
         go_wp2_with fail
         go_roundw
         case rel=>exact ⟨j+1,Af,nf,cf,At2,nt2,ct2,Am,nm,cm,by omega,by go_num,rfl,rfl,by omega,Z9,by omega,TE.out⟩
         case measure=>simp [intOf];omega
        case true=>
         have h1:=Yj.out
         rw [if_pos (by decide)] at h1
         have zhu:=aA h1
         have h2:=Yu.out
         rw [if_neg (by decide),List.append_nil] at h2
         have zgL:=aA h2
         have x9:=aD.alloc w8 (.cells #[.slice A9 xl c9] 28)
         have zfh:=aA ((aL.new w8 28 #[.slice A9 xl c9]).sl (n:=1) (size:=1) rfl)
         have dG:=aA (show aQ [Value.slice A9 xl c9] from fun v hv=>by simp at hv;rw [hv];rfl)
         have R9:=aA (R8.out.keep (aF.of x9) (Q:=PL) fun _ h=>h)
         obtain ⟨X,xs,cH,hpush⟩:=TI.pushF r9.out (T8.out.ext x9)
         have Ub:=aA cH;have qd:=aA hpush
         clear h1 h2 Yj Yu cH hpush x9 T8 R8
         go_wp2_with (first
          | (at_builtin;refine aI rfl (.tmp 199) (.tmp 201) _ rfl _ 28 i0 _ 1 24 Tryz.underlying36 eQ hz0 hz1 eO rfl (by omega) (.slice Af nf cf) nf xs rfl Ub.out _ 1 1 _ rfl zfh.out dG.out (by unfold maxLen;omega) (by omega) ?_;intro Af2 cf2 w10 own10 zc9 zdG;have zf:=aA (qd.out w10 Af2 cf2 _ x R9.out own10.out zdG.out);have zcA:=aA (R9.out.grown Ub.out.own zc9.out (Q:=PL) fun _ h=>h);have iJ:=rR (r9.out.doc zf.out Iq.out) c9 zcA.out.at_ (by omega);rw [zav.out] at iJ;have zbl:=aA iJ;clear own10 zc9 zdG iJ)
          | ((with_reducible refine zbl.out.mono ?_);rintro e w11 ⟨rfl,x11⟩;have xj:=aA (zf.out.ext x11);have zh5:=aA (zcA.out.keep (aF.of x11) (Q:=PL) fun _ h=>h);clear x11))
         have TE:=aA (show TI wL PL d K s1 a.old.isSome U1 Af2 (nf+1) cf2 (lI K a.now s1 on (j+1)) At2 nt2 ct2 (lD K a.now s1 on (j+1)) Am nm cm (i5 K a.now s1 on (j+1)) w11 from by rw [zhu.out,zgL.out];exact xj.out)
         go_roundw
         case rel=>exact ⟨j+1,Af2,nf+1,cf2,At2,nt2,ct2,Am,nm,cm,by omega,by go_num,rfl,rfl,by omega,Z9,by omega,TE.out⟩
         case measure=>simp [intOf];omega
       case true=>
        cases bh
        case false=>
         have h1:=Yj.out
         rw [if_pos (by decide)] at h1
         have zhu:=aA h1
         have h2:=Yu.out
         rw [if_pos (by decide)] at h2
         have zgL:=aA h2
         have x9:=aD.alloc w8 (.cells #[.slice A9 xl c9] 28)
         have zfh:=aA ((aL.new w8 28 #[.slice A9 xl c9]).sl (n:=1) (size:=1) rfl)
         have dG:=aA (show aQ [Value.slice A9 xl c9] from fun v hv=>by simp at hv;rw [hv];rfl)
         have R9:=aA (R8.out.keep (aF.of x9) (Q:=PL) fun _ h=>h)
         obtain ⟨X,xs,cH,hpush⟩:=TI.pushF r9.out (T8.out.ext x9)
         have Ub:=aA cH;have qd:=aA hpush
         clear h1 h2 Yj Yu cH hpush x9 T8 R8
         go_upto_region 39 with (first
          | (at_builtin;refine aI rfl (.tmp 199) (.tmp 201) _ rfl _ 28 i0 _ 1 24 Tryz.underlying36 eQ hz0 hz1 eO rfl (by omega) (.slice Af nf cf) nf xs rfl Ub.out _ 1 1 _ rfl zfh.out dG.out (by unfold maxLen;omega) (by omega) ?_;intro Af2 cf2 w10 own10 zc9 zdG;have zf:=aA (qd.out w10 Af2 cf2 _ x R9.out own10.out zdG.out);have zcA:=aA (R9.out.grown Ub.out.own zc9.out (Q:=PL) fun _ h=>h);have iJ:=rR (r9.out.doc zf.out Iq.out) c9 zcA.out.at_ (by omega);rw [zav.out] at iJ;have zbl:=aA iJ;clear own10 zc9 zdG iJ)
          | ((with_reducible refine zbl.out.mono ?_);rintro e w11 ⟨rfl,x11⟩;have xj:=aA (zf.out.ext x11);have zh5:=aA (zcA.out.keep (aF.of x11) (Q:=PL) fun _ h=>h);clear x11))
         have d9:w11.cell? ⟨d,9,none⟩=some (.slice Am (i5 K a.now s1 on j).length cm):=xj.out.blk.cell 9
         rw [← xj.out.len.2.2] at d9
         have x12:=aD.alloc w11 (.cells #[.slice A9 xl c9] 28)
         have zgJ:=aA ((aL.new w11 28 #[.slice A9 xl c9]).sl (n:=1) (size:=1) rfl)
         have zi4:=aA (zh5.out.keep (aF.of x12) (Q:=PL) fun _ h=>h)
         obtain ⟨X2,xs2,hown2,hXl,hpush2⟩:=TI.pushM r9.out (xj.out.ext x12)
         have zdZ:=aA hown2;have zga:=aA hpush2;have l_:=aA hXl
         have zju:=aA (xj.out.blk.ext x12)
         have zjq:nm≤131072:=by rw [xj.out.len.2.2];exact Iq.out.1
         clear hown2 hpush2 hXl x12 zf zcA zbl qd zfh Ub R9
         go_wp2_with (at_builtin;refine aI rfl (.tmp 211) (.tmp 213) _ rfl _ 28 i0 _ 1 24 Tryz.underlying36 eQ hz0 hz1 eO rfl (by omega) (.slice Am nm cm) nm xs2 rfl zdZ.out _ 1 1 _ rfl zgJ.out dG.out (by unfold maxLen;omega) (by omega) ?_;intro zeL c13 w13 own13 zk5 zid;have zdn:=aA (zid.out.blk zju.out (fun hx=>by have:=l_.out d hx;have:=r9.out.dlt;omega));have e9:_=some (Value.slice Am (i5 K a.now s1 on j).length cm):=zdn.out.cell 9;have f9:=zdn.out.frozen 9;have zeF:=aA (zga.out w13 zeL c13 _ x zi4.out own13.out zid.out))
         have TE:=aA (show TI wL PL d K s1 a.old.isSome U1 Af2 (nf+1) cf2 (lI K a.now s1 on (j+1)) At2 nt2 ct2 (lD K a.now s1 on (j+1)) zeL (nm+1) c13 (i5 K a.now s1 on (j+1)) (w13.setCell ⟨d,9,none⟩ (.slice zeL (nm+1) c13)) from by rw [zhu.out,zgL.out];exact zeF.out)
         go_roundw
         case rel=>exact ⟨j+1,Af2,nf+1,cf2,At2,nt2,ct2,zeL,nm+1,c13,by omega,by go_num,rfl,rfl,by omega,Z9,by omega,TE.out⟩
         case measure=>simp [intOf];omega
        case true=>
         have h1:=Yj.out
         rw [if_neg (by decide),List.append_nil] at h1
         have h2:=Yu.out
         rw [if_neg (by decide),List.append_nil] at h2
         have TE:=aA (show TI wL PL d K s1 a.old.isSome U1 Af nf cf (lI K a.now s1 on (j+1)) At2 nt2 ct2 (lD K a.now s1 on (j+1)) Am nm cm (i5 K a.now s1 on (j+1)) w8 from by rw [h1,h2];exact T8.out)
         clear h1 h2 Yj Yu T8 R8
         go_wp2_with fail
         go_roundw
         case rel=>exact ⟨j+1,Af,nf,cf,At2,nt2,ct2,Am,nm,cm,by omega,by go_num,rfl,rfl,by omega,Z9,by omega,TE.out⟩
         case measure=>simp [intOf];omega))
    ·as_aux_lemma=>(
      obtain rfl:j=ll:=by omega
      have h:=hT.out
      rw [zfq.out.1,Fo,Pa,Ff] at h
      have hM:=xV (on:=on) HI.out.base.sz iZ.out (by rw [Nu.out];exact lP) (eM a.now s1 on).length
      rw [Ff] at hM
      have e1:=h.len.1;have e2:=h.len.2.1
      subst e1 e2
      obtain ⟨t1,t2,t3⟩:=yg r9.out h qw.out HI.out.base.inP HI.out.base.lt zhC.out.1 hM xK.out
      have T1:=aA t1;have T2:=aA t2;have T3:=aA t3
      have HC:=aA (zhC.out.2.trans h.chg fun b hb _=>hb)
      clear h hM t1 t2 t3 hT
      go_wp2_with fail
      go_ret3
      rw [xf.out]
      exact ⟨Af,cf,At,ct,rfl,T1.out,T2.out,T3.out,HC.out⟩)
end Go.Proofs.YtahdiiaadjdmcaaGreat
