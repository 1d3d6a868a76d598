import Derived.Test.YtahdiiaadjdmcaaGreatNgO
namespace Go.Proofs.YtahdiiaadjdmcaaGreat
open Go.RowKit
theorem Ek {K:NK} {s:cR} {r:List V} (h:jW r s.ons=none):eL K s r=0:=by unfold eL;rw [h]
theorem Xu {K:NK} {s:cR} {r:List V} {p:Nat} (h:jW r s.ons=some p) (h2:K.kind=2):eL K s r=s.cnt[p]?.getD 0:=by unfold eL;rw [h];exact if_pos h2
theorem Mq {K:NK} {s:cR} {r:List V} {p:Nat} (h:jW r s.ons=some p) (h3:K.kind=3):eL K s r=if inB s.sides (aE K.side r)=true then 2 else 1:=by unfold eL;rw [h];simp [h3]
theorem Yr {K:NK} {s:cR} {r:List V} {p:Nat} (h:jW r s.ons=some p) (h2:K.kind≠2) (h3:K.kind≠3):eL K s r=1:=by unfold eL;rw [h];simp [h2,h3]
theorem Gz (g:List Nat) (r:List V):(aE g r).length≤g.length:=by
 have zfa:∀ (cs:List Int) (l:List V),fF r cs=some l→l.length≤cs.length:=by
  intro cs
  induction cs with
  | nil=>intro l h;obtain rfl:=Option.some.inj h;exact Nat.le_refl _
  |cons c cs ih=>
   intro l h
   unfold fF at h
   split at h
   ·cases h
   ·cases hv:r[c.toNat]? with
    | none=>rw [hv] at h;cases h
    |some v=>
     rw [hv] at h
     cases hp:fF r cs with
     | none=>rw [hp] at h;cases h
     |some q=>
      rw [hp] at h
      obtain rfl:=Option.some.inj h
      exact Nat.succ_le_succ (ih q hp)
 unfold aE dZ
 split
 ·exact Nat.zero_le _
 ·split
  ·rename_i l hl
   have:=zfa _ _ hl
   rwa [List.length_map] at this
  ·exact Nat.zero_le _
theorem y8 {w:World} {r:List V} {g:List Nat} {A B:Option Addr} {n m:Nat} (c d:Nat) (ha:aW w A n r) (hb:cB w B m (g.map Int.ofNat)) (hn:n≤1048576) (hm:m≤1048576) :
 Calls Tryz.prog 43 #[.slice A n c,.slice B m d] w fun e w'=>∃ A' c',e=.returned (.slice A' (aE g r).length c')∧w'.ownsRow w.heap.size 85 3 (.slice A' (aE g r).length c') (aE g r).length (aO (aE g r))∧aD w w':=yz c d ha hb hn hm
set_option maxRecDepth 100000 in
set_option maxHeartbeats 2000000 in
theorem nJ {w:World} {P:Nat→Prop} {d:Nat} {K:NK} {s:cR} {mk:Bool} {U:lS} (h:vV w P d K s mk U) {r:List V} {Ar:Option Addr} {m:Nat} (c:Nat) (ha:aW w Ar m r) (hm:m≤1048576) :
 Calls Tryz.prog 46 #[.pointer (some ⟨d,0,none⟩),.slice Ar m c] w fun e w'=>e=.returned (.int .i64 (eL K s r:Nat))∧aD w w':=by
 have hb:=h.blk
 have d0:w.cell? ⟨d,0,none⟩=some (.int .i64 (K.kind:Nat)):=hb.cell 0
 have d3:w.cell? ⟨d,3,none⟩=some (.slice U.sA K.side.length U.sC):=hb.cell 3
 have d6:w.cell? ⟨d,6,none⟩=some (.slice U.a.oA s.ons.length U.a.oC):=hb.cell 6
 have d7:w.cell? ⟨d,7,none⟩=some (.slice U.a.sA s.sides.length U.a.sC):=hb.cell 7
 have d8:w.cell? ⟨d,8,none⟩=some (.slice U.a.cA s.cnt.length U.a.cC):=hb.cell 8
 have pX:=aA (iU s.ons r U.a.oA Ar s.ons.length m U.a.oC c w h.now.ons.lat ha (by have:=h.sz.ons.1;omega) (fun q hq=>by have:=h.sz.ons.2 q hq;omega))
 have gE:=pF r s.ons 0
 obtain ⟨no,j8⟩ : ∃ no,s.ons.length=no:=⟨_,rfl⟩
 obtain ⟨ns,hns⟩ : ∃ ns,s.sides.length=ns:=⟨_,rfl⟩
 obtain ⟨nc,zbU⟩ : ∃ nc,s.cnt.length=nc:=⟨_,rfl⟩
 obtain ⟨nk,hnk⟩ : ∃ nk,K.side.length=nk:=⟨_,rfl⟩
 have HH:=aA h;have HA:=aA ha;have HM:=aA hm;have Nq:=aA j8;have zj9:=aA hns;have zgI:=aA zbU;have zjj:=aA hnk
 rw [j8] at d6 pX;rw [hns] at d7;rw [zbU] at d8;rw [hnk] at d3
 clear j8 hns zbU hnk
 cases hi:jW r s.ons with
 |none=>
  rw [hi] at gE
  rw [gE] at pX
  have Zy:=aA (Ek (K:=K) hi)
  clear hi gE h ha hm hb
  go_enter Tryz.func46,Tryz.ntmps46
  go_wp2_with ((with_reducible refine pX.out.mono ?_);rintro e w2 ⟨rfl,x2⟩;have X2:=aA x2;clear x2)
  go_ret
  exact ⟨by rw [Zy.out];rfl,X2.out⟩
 |some p=>
  rw [hi] at gE
  have gE:oJ r s.ons 0=(p:Int):=by rw [gE];simp
  have hp:p<no:=by have:=(List.getElem?_eq_some_iff.1 (iC hi)).1;have:=Nq.out;omega
  rw [gE] at pX
  have Yz:¬ (p:Int)<0:=by omega
  by_cases k2:K.kind=2
  ·have jT:((K.kind:Int) == 2)=true:=by simp [k2]
   have D_:p<nc:=by have:=h.sz.cnt k2;have:=zgI.out;have:=Nq.out;omega
   obtain ⟨v,hv⟩ : ∃ v,s.cnt[p]?=some v:=⟨_,List.getElem?_eq_getElem (by have:=zgI.out;omega)⟩
   have Zy:=aA (show eL K s r=v by rw [Xu hi k2,hv];rfl)
   obtain ⟨b,off,x,hA,hx,-,hc⟩:=h.now.cnt.num.get (i:=p) (by have:=zgI.out;omega)
   rw [List.getElem?_map,hv] at hx
   obtain rfl:Int.ofNat v=x:=Option.some.inj hx
   rw [hA] at d8
   have zjJ:(p:Int)<(nc:Int):=by omega
   have HK:=aA hc;have D0:=aA d0;have D8:=aA d8
   clear hi gE h ha hm hb k2 hv hA hx hc hp D_
   go_enter Tryz.func46,Tryz.ntmps46
   go_wp2_with ((with_reducible refine pX.out.mono ?_);rintro e w2 ⟨rfl,x2⟩;have X2:=aA x2;have k9:=x2.cell HK.out;have d0:=x2.cell D0.out;have d8:=x2.cell D8.out;clear x2)
   go_ret
   exact ⟨by rw [Zy.out];rfl,X2.out⟩
  ·have jT:((K.kind:Int) == 2)=false:=by simp;omega
   by_cases k3:K.kind=3
   ·have Φ:((K.kind:Int) == 3)=true:=by simp [k3]
    have Zy:=aA (Mq hi k3)
    have D0:=aA d0;have D3:=aA d3;have D7:=aA d7
    clear hi gE h ha hm hb k2 k3 hp
    generalize ((K.kind:Nat):Int)=kd at *
    go_enter Tryz.func46,Tryz.ntmps46
    go_upto_region 6 with ((with_reducible refine pX.out.mono ?_);rintro e w2 ⟨rfl,x2⟩;have X2:=aA x2;have d0:=x2.cell D0.out;have d3:=x2.cell D3.out;have d7:=x2.cell D7.out;clear x2)
    refine bW [(0,true),(1,true),(2,true),(3,true),(4,true),(5,true),(6,true),(7,true),(8,true),(9,true),(10,true),(11,true),(12,true),(13,true),(14,true),(15,true),(16,true),(17,true),(18,false),(19,false),(20,true)] (fun w'=>w'.cell? ⟨d,0,none⟩=some (.int .i64 kd)∧w'.cell? ⟨d,3,none⟩=some (.slice U.sA nk U.sC)∧w'.cell? ⟨d,7,none⟩=some (.slice U.a.sA ns U.a.sC)) (by kernel_rfl) (by kernel_rfl) (fun _ _ _ _ _ h=>h) ?_ ?_
    ·exact fun w' hw'=>⟨hw'.cell d0,hw'.cell d3,hw'.cell d7⟩
    intro wq hwq
    have XQ:=aA (X2.out.trans hwq)
    have Vd:=aA (y8 c U.sC (HA.out.ext XQ.out) (HH.out.side.num.ext XQ.out) HM.out (by have:=HH.out.ok.side.1;omega))
    rw [zjj.out] at Vd
    clear hwq d0 d3 d7
    iterate 18
     unfold dO
     refine ⟨_,rfl,?_⟩
     apply Exists.intro
     refine ⟨.inl ⟨by rfl,fun w9 h9=>?_⟩,fun K hK=>?_⟩
     ·go_simp;first | done | rfl
     go_simp;refine hK _ ?_;clear hK K
    unfold dO
    refine ⟨_,rfl,?_⟩
    go_wp2_with ((with_reducible refine Vd.out.mono ?_);rintro e w3 ⟨A3,c3,rfl,o3,x3⟩;have X3:=aA (XQ.out.trans x3);have O3:=aA (aW.own o3);clear o3 x3)
    simp only [kB]
    refine ⟨⟨X3.out.cell D0.out,X3.out.cell D3.out,X3.out.cell D7.out⟩,?_⟩
    have Mg:=aA (yZ s.sides (aE K.side r) U.a.sA A3 s.sides.length (aE K.side r).length U.a.sC c3 w3 (HH.out.now.sides.keep (aF.of X3.out) (Q:=P) fun _ h=>h).lat O3.out (by have:=HH.out.sz.sides.1;omega) (fun q hq=>by have:=HH.out.sz.sides.2 q hq;omega))
    rw [zj9.out] at Mg
    obtain ⟨bz,hbz⟩ : ∃ bz,inB s.sides (aE K.side r)=bz:=⟨_,rfl⟩
    have zbO:=aA Zy.out
    rw [hbz] at Mg zbO
    clear hbz Vd
    unfold dO
    refine ⟨_,rfl,?_⟩
    go_wp2_with ((with_reducible refine Mg.out.mono ?_);rintro e w4 ⟨rfl,x4⟩;have X4:=aA (X3.out.trans x4);clear x4)
    simp only [kB]
    refine ⟨⟨X4.out.cell D0.out,X4.out.cell D3.out,X4.out.cell D7.out⟩,?_⟩
    unfold dO
    refine ⟨_,rfl,?_⟩
    apply Exists.intro
    refine ⟨.inl ⟨by rfl,fun w9 h9=>?_⟩,fun K hK=>?_⟩
    ·go_simp;first | done | rfl
    go_simp;refine hK _ ?_;clear hK K
    unfold dO
    cases bz with
    |true=>
     go_wp2_with fail
     go_ret
     exact ⟨by rw [zbO.out];rfl,X4.out⟩
    |false=>
     go_wp2_with fail
     go_ret
     exact ⟨by rw [zbO.out];rfl,X4.out⟩
   ·have Φ:((K.kind:Int) == 3)=false:=by simp;omega
    have Zy:=aA (Yr hi k2 k3)
    have D0:=aA d0;have D3:=aA d3;have D7:=aA d7
    clear hi gE h ha hm hb k2 k3 hp
    generalize ((K.kind:Nat):Int)=kd at *
    go_enter Tryz.func46,Tryz.ntmps46
    go_upto_region 6 with ((with_reducible refine pX.out.mono ?_);rintro e w2 ⟨rfl,x2⟩;have X2:=aA x2;have d0:=x2.cell D0.out;clear x2)
    refine bW [(0,true),(1,true),(2,true),(3,true),(4,true),(5,true),(6,true),(7,true),(8,true),(9,true),(10,true),(11,true),(12,true),(13,true),(14,true),(15,true),(16,true),(17,true),(18,true),(19,true),(20,true)] (fun w'=>w'.cell? ⟨d,0,none⟩=some (.int .i64 kd)) (by kernel_rfl) (by kernel_rfl) (fun _ _ _ _ _ h=>h) ?_ ?_
    ·exact fun w' hw'=>hw'.cell d0
    intro wq hwq
    have XQ:=aA (X2.out.trans hwq)
    clear hwq d0
    iterate 7
     unfold dO
     refine ⟨_,rfl,?_⟩
     apply Exists.intro
     refine ⟨.inl ⟨by rfl,fun w9 h9=>?_⟩,fun K hK=>?_⟩
     ·go_simp;first | done | rfl
     go_simp;refine hK _ ?_;clear hK K
    unfold dO
    refine ⟨_,rfl,?_⟩
    apply Exists.intro
    refine ⟨.inr ⟨by rfl,rfl⟩,fun K hK=>?_⟩
    go_simp;refine hK _ ?_;clear hK K
    unfold dO
    refine ⟨_,rfl,?_⟩
    apply Exists.intro
    refine ⟨.inr ⟨by rfl,rfl⟩,fun K hK=>?_⟩
    go_simp;refine hK _ ?_;clear hK K
    unfold dO
    refine ⟨_,rfl,?_⟩
    apply Exists.intro
    refine ⟨.inr ⟨by rfl,rfl⟩,fun K hK=>?_⟩
    go_simp;refine hK _ ?_;clear hK K
    unfold dO
    refine ⟨_,rfl,?_⟩
    apply Exists.intro
    refine ⟨.inr ⟨by rfl,rfl⟩,fun K hK=>?_⟩
    go_simp;refine hK _ ?_;clear hK K
    unfold dO
    refine ⟨_,rfl,?_⟩
    apply Exists.intro
    refine ⟨.inr ⟨by rfl,rfl⟩,fun K hK=>?_⟩
    go_simp;refine hK _ ?_;clear hK K
    unfold dO
    refine ⟨_,rfl,?_⟩
    apply Exists.intro
    refine ⟨.inr ⟨by rfl,rfl⟩,fun K hK=>?_⟩
    go_simp;refine hK _ ?_;clear hK K
    unfold dO
    refine ⟨_,rfl,?_⟩
    apply Exists.intro
    refine ⟨.inr ⟨by rfl,rfl⟩,fun K hK=>?_⟩
    go_simp;refine hK _ ?_;clear hK K
    unfold dO
    refine ⟨_,rfl,?_⟩
    apply Exists.intro
    refine ⟨.inr ⟨by rfl,rfl⟩,fun K hK=>?_⟩
    go_simp;refine hK _ ?_;clear hK K
    unfold dO
    refine ⟨_,rfl,?_⟩
    apply Exists.intro
    refine ⟨.inr ⟨by rfl,rfl⟩,fun K hK=>?_⟩
    go_simp;refine hK _ ?_;clear hK K
    unfold dO
    refine ⟨_,rfl,?_⟩
    apply Exists.intro
    refine ⟨.inr ⟨by rfl,rfl⟩,fun K hK=>?_⟩
    go_simp;refine hK _ ?_;clear hK K
    unfold dO
    refine ⟨_,rfl,?_⟩
    apply Exists.intro
    refine ⟨.inr ⟨by rfl,rfl⟩,fun K hK=>?_⟩
    go_simp;refine hK _ ?_;clear hK K
    unfold dO
    refine ⟨_,rfl,?_⟩
    apply Exists.intro
    refine ⟨.inr ⟨by rfl,rfl⟩,fun K hK=>?_⟩
    go_simp;refine hK _ ?_;clear hK K
    unfold dO
    refine ⟨_,rfl,?_⟩
    apply Exists.intro
    refine ⟨.inr ⟨by rfl,rfl⟩,fun K hK=>?_⟩
    go_simp;refine hK _ ?_;clear hK K
    unfold dO
    refine ⟨_,rfl,?_⟩
    apply Exists.intro
    refine ⟨.inl ⟨by rfl,fun w9 h9=>?_⟩,fun K hK=>?_⟩
    ·go_simp;first | done | rfl
    go_simp;refine hK _ ?_;clear hK K
    unfold dO
    go_wp2_with fail
    go_ret
    exact ⟨by rw [Zy.out];rfl,XQ.out⟩
set_option maxRecDepth 100000 in
set_option maxHeartbeats 2000000 in
theorem rR {w:World} {P:Nat→Prop} {d:Nat} {K:NK} {s:cR} {mk:Bool} {U:lS} (h:vV w P d K s mk U) {r:List V} {Ar:Option Addr} {m:Nat} (c:Nat) (ha:aW w Ar m r) (hm:m≤1048576) :
 Calls Tryz.prog 45 #[.pointer (some ⟨d,0,none⟩),.slice Ar m c] w fun e w'=>e=.returned (.bool (bG K s r))∧aD w w':=by
 have HS:=aA (nJ h c ha hm)
 have HB:=aA h.blk
 have d0:w.cell? ⟨d,0,none⟩=some (.int .i64 (K.kind:Nat)):=h.blk.cell 0
 have D0:=aA d0
 obtain ⟨v,hv⟩ : ∃ v,eL K s r=v:=⟨_,rfl⟩
 have HL:=aA (show bG K s r=decide (1<v∨(v=1∧K.kind≠3)) by unfold bG;rw [hv])
 rw [hv] at HS
 clear h ha hm hv d0
 by_cases h1:1<v
 ·have Zj:=aA (HL.out.trans (decide_eq_true (Or.inl h1)))
  have h2:(1:Int)<(v:Int):=by omega
  clear h1
  go_enter Tryz.func45,Tryz.ntmps45
  go_wp2_with ((with_reducible refine HS.out.mono ?_);rintro e w2 ⟨rfl,x2⟩;have X2:=aA x2;clear x2)
  go_ret
  exact ⟨by rw [Zj.out];rfl,X2.out⟩
 ·have h2:¬ (1:Int)<(v:Int):=by omega
  by_cases h3:v=1
  ·have h4:((v:Int) == 1)=true:=by simp [h3]
   by_cases k3:K.kind=3
   ·have Φ:((K.kind:Int) != 3)=false:=by simp [k3]
    have Zj:=aA (HL.out.trans (decide_eq_false fun hh=>hh.elim h1 fun hh=>hh.2 k3))
    clear h1 h3 k3
    go_enter Tryz.func45,Tryz.ntmps45
    go_wp2_with ((with_reducible refine HS.out.mono ?_);rintro e w2 ⟨rfl,x2⟩;have X2:=aA x2;have d0:=x2.cell D0.out;clear x2)
    go_ret
    exact ⟨by rw [Zj.out];exact bX (by simp;omega),X2.out⟩
   ·have Φ:((K.kind:Int) != 3)=true:=by simp;omega
    have Zj:=aA (HL.out.trans (decide_eq_true (Or.inr ⟨h3,k3⟩)))
    clear h1 h3 k3
    go_enter Tryz.func45,Tryz.ntmps45
    go_wp2_with ((with_reducible refine HS.out.mono ?_);rintro e w2 ⟨rfl,x2⟩;have X2:=aA x2;have d0:=x2.cell D0.out;clear x2)
    go_ret
    exact ⟨by rw [Zj.out];rfl,X2.out⟩
  ·have h4:((v:Int) == 1)=false:=by simp;omega
   have Zj:=aA (HL.out.trans (decide_eq_false fun hh=>hh.elim h1 fun hh=>h3 hh.1))
   clear h1 h3
   go_enter Tryz.func45,Tryz.ntmps45
   go_wp2_with ((with_reducible refine HS.out.mono ?_);rintro e w2 ⟨rfl,x2⟩;have X2:=aA x2;clear x2)
   go_ret
   exact ⟨by rw [Zj.out];exact bX (by simp;omega),X2.out⟩
def Gu (K:NK) (s:cR) (i:Nat):List Int:=(s.ons.take i).map fun x=>Int.ofNat (eL K s x)
theorem Tu {K:NK} {s:cR} {i:Nat} {r:List V} (h:s.ons[i]?=some r):(Gu K s (i+1)).map (Value.int .i64)=(Gu K s i).map (Value.int .i64) ++ [Value.int .i64 (eL K s r:Nat)]:=by
 unfold Gu
 rw [List.take_add_one,h]
 simp
set_option maxRecDepth 100000 in
set_option maxHeartbeats 2000000 in
theorem Gy {w:World} {P:Nat→Prop} {d:Nat} {K:NK} {s:cR} {mk:Bool} {U:lS} (h:vV w P d K s mk U) :
 Calls Tryz.prog 41 #[.pointer (some ⟨d,0,none⟩)] w fun e w'=>∃ A c,e=.returned (.slice A s.ons.length c)∧aJ w' (fun b=>w.heap.size≤b) 3 1 s.ons.length (.slice A s.ons.length c) ((Gu K s s.ons.length).map (Value.int .i64))∧aD w w':=by
 have d6:w.cell? ⟨d,6,none⟩=some (.slice U.a.oA s.ons.length U.a.oC):=h.blk.cell 6
 have HH:=aA h
 obtain ⟨no,j8⟩ : ∃ no,s.ons.length=no:=⟨_,rfl⟩
 have Nq:=aA j8
 rw [j8] at d6 ⊢
 have D6:=aA d6
 have Lr:=h.sz.ons.1
 rw [j8] at Lr
 obtain ⟨i0,eQ,hz0,hz1,eO⟩:=info_parts rB
 clear j8 h d6
 go_enter Tryz.func41,Tryz.ntmps41
 go_wp2_with fail
 go_loopw [3,4] (fun s3 s4 w'=>∃ (i:Nat) (A:Option Addr) (c:Nat),i≤no∧s4=.int .i64 i∧s3=.slice A i c∧Hid (aJ w' (fun b=>w.heap.size≤b) 3 1 i (.slice A i c) ((Gu K s i).map (Value.int .i64)))∧Hid (aD w w')) (fun _ s4 _=>no - (intOf s4).toNat)
 case atStart=>exact ⟨0,none,0,by omega,rfl,rfl,aJ.nil _ _ _ _,aD.refl _⟩
 case round=>
  obtain ⟨i,A,c,him,rfl,rfl,hO,hX⟩:=hrel
  have d6:=hX.out.cell D6.out
  by_cases hi:i<no
  ·have zbT:(i:Int)<(no:Int):=by omega
   obtain ⟨r,hr⟩ : ∃ r,s.ons[i]?=some r:=⟨_,List.getElem?_eq_getElem (by have:=Nq.out;omega)⟩
   obtain ⟨b,off,A9,c9,hA,hc9,Pc⟩:=(HH.out.now.ons.keep (aF.of hX.out) (Q:=P) fun _ h=>h).arg hr
   have za0:=HH.out.sz.ons.2 r (List.mem_of_getElem? hr)
   rw [hA] at d6
   have HS:=aA (nJ (HH.out.ext hX.out) c9 Pc (by omega))
   have Cf:=aA (Tu (K:=K) hr)
   obtain ⟨v,hv⟩ : ∃ v,eL K s r=v:=⟨_,rfl⟩
   rw [hv] at HS Cf
   obtain ⟨rl,q_⟩ : ∃ rl,r.length=rl:=⟨_,rfl⟩
   rw [q_] at HS hc9
   clear hr hA Pc za0 hv q_
   go_wp2_with (first
    | ((with_reducible refine HS.out.mono ?_);rintro e w2 ⟨rfl,x2⟩;have x3:=aD.alloc w2 (.cells #[.int .i64 v] 3);have zjb:=aA ((aL.new w2 3 #[.int .i64 v]).sl (n:=1) (size:=1) rfl);have X3:=aA (hX.out.trans (x2.trans x3));have O3:=aA (hO.out.ext (x2.trans x3));have dG:=aA (show aQ [Value.int .i64 v] from fun u hu=>by simp at hu;rw [hu];rfl);clear x2 x3)
    | (at_builtin;refine aI rfl (.tmp 15) (.tmp 26) _ rfl _ 3 i0 _ 1 8 Tryz.underlying23 eQ hz0 hz1 eO rfl (by omega) (.slice A i c) i _ rfl O3.out _ 1 1 _ rfl zjb.out dG.out (by unfold maxLen;omega) (by omega) ?_;intro A4 c4 w4 own4 G4 C4))
   go_roundw
   case rel=>exact ⟨i+1,A4,c4,by omega,by go_num,rfl,by
    have h4:=own4.out
    rw [← Cf.out] at h4
    have:=X3.out.size
    exact h4.mono fun b hb=>hb.elim id fun e=>by omega,C4.out.ext X3.out fun b hb=>hb⟩
   case measure=>simp [intOf];omega
  ·obtain rfl:i=no:=by omega
   go_wp2_with fail
   go_ret
   exact ⟨A,c,rfl,hO.out,hX.out⟩
section
variable {w:World} {P:Nat→Prop} {d:Nat} {K:NK} {a:aR} {U:lS} {s:cR} {L:Dq} {g:Nat} {cs:Array Value}
theorem cY.farD {A:Option Addr} {n c:Nat} {rows:List (List V)} (h:cY w P A n c rows) (hb:aL w g 70 cs) (j:Nat) (u:Value):cY (w.setCell ⟨g,j,none⟩ u) P A n c rows:=by
 obtain ⟨h1,xs,h2,h3⟩:=h
 refine ⟨h1,xs,h2.far hb (by decide) j u,h3.mono fun cs r hx=>?_⟩
 obtain ⟨A,n,c,e,ho⟩:=hx
 exact ⟨A,n,c,e,ho.far hb (by decide) j u⟩
theorem jR.farD {A:Option Addr} {c:Nat} {xs:List Nat} (h:jR w P A c xs) (hb:aL w g 70 cs) (j:Nat) (u:Value):jR (w.setCell ⟨g,j,none⟩ u) P A c xs:=aJ.far h hb (by decide) j u
theorem jC.farD (h:jC w P s L) (hb:aL w g 70 cs) (j:Nat) (u:Value):jC (w.setCell ⟨g,j,none⟩ u) P s L:=⟨h.ons.farD hb j u,h.sides.farD hb j u,h.cnt.farD hb j u,h.live.farD hb j u⟩
structure yc (w:World) (P:Nat→Prop) (K:NK) (U:lS) (now:cR) (na:Dq) (old:Option cR) (ol:Dq):Prop where
 keep:jR w P U.kA U.kC K.keep
 side:jR w P U.sA U.sC K.side
 up:jR w P U.uA U.uC K.up
 now:jC w P now na
 old:∀ o,old=some o→jC w P o ol
theorem yc.farD {now:cR} {na ol:Dq} {old:Option cR} (h:yc w P K U now na old ol) (hb:aL w g 70 cs) (j:Nat) (u:Value):yc (w.setCell ⟨g,j,none⟩ u) P K U now na old ol:=
 ⟨h.keep.farD hb j u,h.side.farD hb j u,h.up.farD hb j u,h.now.farD hb j u,fun o ho=>(h.old o ho).farD hb j u⟩
theorem tA.lists (h:tA w P d K a U):yc w P K U a.now U.a a.old U.o:=⟨h.base.keep,h.base.side,h.base.up,h.base.now,fun o ho=>(h.old o ho).2.1⟩
theorem aF.atD {w':World} (h:aF (fun b=>b=d) w w') (j:Nat) (u:Value):aF (fun b=>b=d) w (w'.setCell ⟨d,j,none⟩ u):=h.setCell (p:=⟨d,j,none⟩) (.inl rfl) u
end
set_option maxRecDepth 100000 in
set_option maxHeartbeats 2000000 in
theorem Cd {w:World} {P:Nat→Prop} {d:Nat} {K:NK} {a:aR} {U:lS} (h:tA w P d K a U) :
 Calls Tryz.prog 57 #[.pointer (some ⟨d,0,none⟩)] w fun e w'=>e=.returned (.int .i64 (cX a).2)∧oT w' P d K (cX a).1∧aF (fun b=>b=d) w w':=by
 have hb:=h.base.blk
 have HH:=aA h
 have d10:w.cell? ⟨d,10,none⟩=some (.bool a.old.isSome):=hb.cell 10
 cases ho:a.old with
 |none=>
  have hc:cX a=(a,65):=by unfold cX;rw [ho]
  rw [hc]
  rw [ho] at d10
  have d10:w.cell? ⟨d,10,none⟩=some (.bool false):=d10
  clear hb h ho hc
  go_enter Tryz.func57,Tryz.ntmps57
  go_wp2_with fail
  go_ret
  exact ⟨rfl,⟨U,HH.out⟩,aF.refl _ _⟩
 |some o=>
  have hc:cX a=(⟨a.now,none⟩,0):=by unfold cX;rw [ho]
  rw [hc]
  rw [ho] at d10
  have d10:w.cell? ⟨d,10,none⟩=some (.bool true):=d10
  have f10:=hb.frozen 10
  have HB:=aA hb
  clear hb h ho hc
  go_enter Tryz.func57,Tryz.ntmps57
  go_wp2_with fail
  go_ret
  have hl:=HH.out.lists.farD HB.out 10 (.bool false)
  refine ⟨rfl,⟨U,⟨HH.out.base.ok,HH.out.base.sz,HB.out.set_ 10 (.bool false),HH.out.base.inP,fun b hb=>by rw [World.size_setCell];exact HH.out.base.lt b hb,hl.keep,hl.side,hl.up,hl.now⟩,HH.out.nok,fun o ho=>by cases ho⟩,(aF.refl _ _).atD _ _⟩
set_option maxRecDepth 100000 in
set_option maxHeartbeats 2000000 in
theorem Tr {w:World} {P:Nat→Prop} {d:Nat} {K:NK} {a:aR} {U:lS} (h:tA w P d K a U) :
 Calls Tryz.prog 55 #[.pointer (some ⟨d,0,none⟩)] w fun e w'=>e=.returned (.int .i64 (j7 a).2)∧oT w' P d K (j7 a).1∧aF (fun b=>b=d) w w':=by
 have hb:=h.base.blk
 have HH:=aA h
 have d10:w.cell? ⟨d,10,none⟩=some (.bool a.old.isSome):=hb.cell 10
 cases ho:a.old with
 |some o=>
  have hc:j7 a=(a,64):=by unfold j7;rw [ho]
  rw [hc]
  rw [ho] at d10
  have d10:w.cell? ⟨d,10,none⟩=some (.bool true):=d10
  clear hb h ho hc
  go_enter Tryz.func55,Tryz.ntmps55
  go_wp2_with fail
  go_ret
  exact ⟨rfl,⟨U,HH.out⟩,aF.refl _ _⟩
 |none=>
  have hc:j7 a=(⟨a.now,some a.now⟩,0):=by unfold j7;rw [ho]
  rw [hc]
  rw [ho] at d10
  have d10:w.cell? ⟨d,10,none⟩=some (.bool false):=d10
  have d6:w.cell? ⟨d,6,none⟩=some (.slice U.a.oA a.now.ons.length U.a.oC):=hb.cell 6
  have d7:w.cell? ⟨d,7,none⟩=some (.slice U.a.sA a.now.sides.length U.a.sC):=hb.cell 7
  have d8:w.cell? ⟨d,8,none⟩=some (.slice U.a.cA a.now.cnt.length U.a.cC):=hb.cell 8
  have d9:w.cell? ⟨d,9,none⟩=some (.slice U.a.lA a.now.live.length U.a.lC):=hb.cell 9
  have d11:w.cell? ⟨d,11,none⟩=some (.slice U.o.oA U.so.ons.length U.o.oC):=hb.cell 11
  have d12:w.cell? ⟨d,12,none⟩=some (.slice U.o.sA U.so.sides.length U.o.sC):=hb.cell 12
  have d13:w.cell? ⟨d,13,none⟩=some (.slice U.o.cA U.so.cnt.length U.o.cC):=hb.cell 13
  have d14:w.cell? ⟨d,14,none⟩=some (.slice U.o.lA U.so.live.length U.o.lC):=hb.cell 14
  have f10:=hb.frozen 10;have f11:=hb.frozen 11;have f12:=hb.frozen 12;have f13:=hb.frozen 13;have f14:=hb.frozen 14
  have HB:=aA hb
  clear hb h ho hc
  go_enter Tryz.func55,Tryz.ntmps55
  go_wp2_with fail
  go_ret
  have hl:=HH.out.lists
  obtain ⟨U',hU'⟩ : ∃ U':lS,U' =⟨U.kA,U.kC,U.sA,U.sC,U.uA,U.uC,U.a,U.a,a.now⟩:=⟨_,rfl⟩
  have b1:=HB.out.set_ 10 (.bool true);have b2:=b1.set_ 11 (.slice U.a.oA a.now.ons.length U.a.oC);have b3:=b2.set_ 12 (.slice U.a.sA a.now.sides.length U.a.sC);have b4:=b3.set_ 13 (.slice U.a.cA a.now.cnt.length U.a.cC);have b5:=b4.set_ 14 (.slice U.a.lA a.now.live.length U.a.lC)
  have l5:=((((hl.farD HB.out 10 (.bool true)).farD b1 11 (.slice U.a.oA a.now.ons.length U.a.oC)).farD b2 12 (.slice U.a.sA a.now.sides.length U.a.sC)).farD b3 13 (.slice U.a.cA a.now.cnt.length U.a.cC)).farD b4 14 (.slice U.a.lA a.now.live.length U.a.lC)
  refine ⟨rfl,⟨⟨U.kA,U.kC,U.sA,U.sC,U.uA,U.uC,U.a,U.a,a.now⟩,⟨HH.out.base.ok,HH.out.base.sz,b5,HH.out.base.inP,fun b hb=>by simp only [World.size_setCell];exact HH.out.base.lt b hb,l5.keep,l5.side,l5.up,l5.now⟩,HH.out.nok,fun o ho=>by obtain rfl:=Option.some.inj ho;exact ⟨rfl,l5.now,HH.out.nok,HH.out.base.sz⟩⟩,?_⟩
  exact (((((aF.refl _ w).atD _ _).atD _ _).atD _ _).atD _ _).atD _ _
set_option maxRecDepth 100000 in
set_option maxHeartbeats 2000000 in
theorem Wa {w:World} {P:Nat→Prop} {d:Nat} {K:NK} {a:aR} {U:lS} (h:tA w P d K a U) :
 Calls Tryz.prog 58 #[.pointer (some ⟨d,0,none⟩)] w fun e w'=>e=.returned (.int .i64 (fS a).2)∧oT w' P d K (fS a).1∧aF (fun b=>b=d) w w':=by
 have hb:=h.base.blk
 have HH:=aA h
 have d10:w.cell? ⟨d,10,none⟩=some (.bool a.old.isSome):=hb.cell 10
 cases ho:a.old with
 |none=>
  have hc:fS a=(a,65):=by unfold fS;rw [ho]
  rw [hc]
  rw [ho] at d10
  have d10:w.cell? ⟨d,10,none⟩=some (.bool false):=d10
  clear hb h ho hc
  go_enter Tryz.func58,Tryz.ntmps58
  go_wp2_with fail
  go_ret
  exact ⟨rfl,⟨U,HH.out⟩,aF.refl _ _⟩
 |some o=>
  have hc:fS a=(⟨o,none⟩,0):=by unfold fS;rw [ho]
  rw [hc]
  have HO:=aA (HH.out.old o ho)
  obtain ⟨hso,-⟩:=h.old o ho
  rw [ho] at d10
  have d10:w.cell? ⟨d,10,none⟩=some (.bool true):=d10
  have d6:w.cell? ⟨d,6,none⟩=some (.slice U.a.oA a.now.ons.length U.a.oC):=hb.cell 6
  have d7:w.cell? ⟨d,7,none⟩=some (.slice U.a.sA a.now.sides.length U.a.sC):=hb.cell 7
  have d8:w.cell? ⟨d,8,none⟩=some (.slice U.a.cA a.now.cnt.length U.a.cC):=hb.cell 8
  have d9:w.cell? ⟨d,9,none⟩=some (.slice U.a.lA a.now.live.length U.a.lC):=hb.cell 9
  have d11:w.cell? ⟨d,11,none⟩=some (.slice U.o.oA U.so.ons.length U.o.oC):=hb.cell 11
  have d12:w.cell? ⟨d,12,none⟩=some (.slice U.o.sA U.so.sides.length U.o.sC):=hb.cell 12
  have d13:w.cell? ⟨d,13,none⟩=some (.slice U.o.cA U.so.cnt.length U.o.cC):=hb.cell 13
  have d14:w.cell? ⟨d,14,none⟩=some (.slice U.o.lA U.so.live.length U.o.lC):=hb.cell 14
  rw [hso] at d11 d12 d13 d14
  have f6:=hb.frozen 6;have f7:=hb.frozen 7;have f8:=hb.frozen 8;have f9:=hb.frozen 9
  have hl:=h.lists
  have b1:=hb.set_ 6 (.slice U.o.oA o.ons.length U.o.oC);have b2:=b1.set_ 7 (.slice U.o.sA o.sides.length U.o.sC);have b3:=b2.set_ 8 (.slice U.o.cA o.cnt.length U.o.cC);have b4:=b3.set_ 9 (.slice U.o.lA o.live.length U.o.lC)
  have l4:=(((hl.farD hb 6 (.slice U.o.oA o.ons.length U.o.oC)).farD b1 7 (.slice U.o.sA o.sides.length U.o.sC)).farD b2 8 (.slice U.o.cA o.cnt.length U.o.cC)).farD b3 9 (.slice U.o.lA o.live.length U.o.lC)
  have c4:aF (fun b=>b=d) w ((((w.setCell ⟨d,6,none⟩ (.slice U.o.oA o.ons.length U.o.oC)).setCell ⟨d,7,none⟩ (.slice U.o.sA o.sides.length U.o.sC)).setCell ⟨d,8,none⟩ (.slice U.o.cA o.cnt.length U.o.cC)).setCell ⟨d,9,none⟩ (.slice U.o.lA o.live.length U.o.lC)):=((((aF.refl _ w).atD _ _).atD _ _).atD _ _).atD _ _
  have hi:tA ((((w.setCell ⟨d,6,none⟩ (.slice U.o.oA o.ons.length U.o.oC)).setCell ⟨d,7,none⟩ (.slice U.o.sA o.sides.length U.o.sC)).setCell ⟨d,8,none⟩ (.slice U.o.cA o.cnt.length U.o.cC)).setCell ⟨d,9,none⟩ (.slice U.o.lA o.live.length U.o.lC)) P d K ⟨o,some o⟩ {U with a:=U.o}:=by
   refine ⟨⟨HH.out.base.ok,HO.out.2.2.2,?_,HH.out.base.inP,fun b hb=>by simp only [World.size_setCell];exact HH.out.base.lt b hb,l4.keep,l4.side,l4.up,l4.old o ho⟩,HO.out.2.2.1,fun q hq=>by obtain rfl:=Option.some.inj hq;exact ⟨hso,l4.old o ho,HO.out.2.2⟩⟩
   rw [ho] at b4
   exact b4
  have zkx:=aA (Cd hi)
  have C4:=aA c4
  clear hb h ho hc hl b1 b2 b3 b4 l4 c4 hi hso
  go_enter Tryz.func58,Tryz.ntmps58
  go_wp2_with ((with_reducible refine zkx.out.mono ?_);rintro e w2 ⟨rfl,h2,c2⟩)
  go_ret
  exact ⟨rfl,h2,C4.out.trans c2 fun b hb _=>hb⟩
def yI (w:World) (P:Nat→Prop) (A:Option Addr) (n c:Nat) (L:List (List V)) (w':World):Prop:=n=L.length∧∃ xs,aJ w' (fun b=>w.heap.size≤b) 28 1 n (.slice A n c) xs∧gJ (RB P) 1 w' xs L
section
variable {w w' w2:World} {P:Nat→Prop} {A A':Option Addr} {n c c':Nat} {L:List (List V)}
theorem yI.nil (w w':World) (P:Nat→Prop):yI w P none 0 0 [] w':=⟨rfl,[],aJ.nil _ _ _ _,.nil⟩
theorem yI.ext (h:yI w P A n c L w') (hx:aD w' w2):yI w P A n c L w2:=by
 obtain ⟨h1,xs,h2,h3⟩:=h
 exact ⟨h1,xs,h2.ext hx,h3.mono fun cs r hr=>hr.keep (aF.of hx) fun _ h=>h⟩
theorem yI.told (h:yI w P A n c L w'):cY w' (And' P w.heap.size w'.heap.size) A n c L:=by
 obtain ⟨h1,xs,h2,h3⟩:=h
 exact ⟨h1,xs,⟨h2.own,fun g hg=>.inr ⟨h2.inB g hg,h2.lt g hg⟩⟩,h3.mono fun cs r hr=>hr.mono fun b hb=>.inl hb⟩
theorem yI.push {xs:List Value} {u:Value} {r:List V} (_ho:aJ w' (fun b=>w.heap.size≤b) 28 1 n (.slice A n c) xs) (he:gJ (RB P) 1 w' xs L) (hn:n=L.length) (hr:RB P w' [u] r) (hs:w.heap.size≤w'.heap.size) (hP:∀ b,P b→b<w.heap.size)
 (o:aJ w2 (fun b=>w.heap.size≤b∨b=w'.heap.size) 28 1 (n+1) (.slice A' (n+1) c') (xs ++ [u])) (C:aF (fun b=>w.heap.size≤b) w' w2):yI w P A' (n+1) c' (L ++ [r]) w2:=by
 have hk:bU P w' w2:=C.mono fun b hb _ hp=>by have:=hP b hp;omega
 refine ⟨by rw [List.length_append,hn];rfl,xs ++ [u],o.mono fun b hb=>hb.elim id fun e=>by omega,?_⟩
 exact (he.append (pN hr)).mono fun cs r hr=>hr.keep hk fun _ h=>h
theorem RB.at_ {r:List V} (h:RB P w [.slice A n c] r):aW w A n r:=by
 obtain ⟨A1,n1,c1,e,ho⟩:=h
 injection e with e
 injection e with e1 e2 e3
 subst e1 e2 e3
 exact aW.own ho.own
theorem cY.rb {rows:List (List V)} (h:cY w P A n c rows) {i:Nat} {r:List V} (hr:rows[i]?=some r):∃ b off A9 c9,A=some ⟨b,off,none⟩∧w.cell? ⟨b,off+i,none⟩=some (.slice A9 r.length c9)∧RB P w [.slice A9 r.length c9] r:=by
 have hi:=(List.getElem?_eq_some_iff.1 hr).1
 have hl:=h.1
 obtain ⟨b,off,r',cs,hA,hx,oY,_,_,⟨A9,n9,c9,rfl,hR⟩,cV⟩:=(pO.rb h).get (by omega) (i:=i) (by omega)
 obtain rfl:r=r':=Option.some.inj (hr.symm.trans hx)
 have h0:=cV 0 (by omega)
 rw [Nat.mul_one,Nat.add_zero] at h0
 obtain rfl:=(aW.own hR.own).len
 exact ⟨b,off,A9,c9,hA,h0,A9,_,c9,rfl,hR⟩
end
def l7 (K:NK) (s:cR) (key:List V):List (List V):=s.live.filter fun x=>bP (aE K.up x) key
theorem Cm (K:NK) (a:aR) (key:List V):gY (S1 K a) 0 key=l7 K a.now key:=rfl
def Sd (K:NK) (s:cR) (key:List V) (i:Nat):List (List V):=(s.live.take i).filter fun x=>bP (aE K.up x) key
theorem Ur {K:NK} {s:cR} {key:List V} {i:Nat} {r:List V} (h:s.live[i]?=some r):Sd K s key (i+1)=Sd K s key i ++ if bP (aE K.up r) key=true then [r] else []:=by
 unfold Sd
 rw [List.take_add_one,h]
 simp only [Option.toList_some,List.filter_append,List.filter_cons,List.filter_nil]
set_option maxRecDepth 100000 in
set_option maxHeartbeats 2000000 in
theorem xA {w:World} {P:Nat→Prop} {d:Nat} {K:NK} {s:cR} {mk:Bool} {U:lS} (h:vV w P d K s mk U) {key:List V} {Ak:Option Addr} {m:Nat} (ck:Nat) (ha:aW w Ak m key) :
 Calls Tryz.prog 50 #[.pointer (some ⟨d,0,none⟩),.slice Ak m ck] w fun e w'=>∃ A c,e=.returned (.slice A (l7 K s key).length c)∧cY w' (And' P w.heap.size w'.heap.size) A (l7 K s key).length c (l7 K s key)∧aD w w':=by
 have d9:w.cell? ⟨d,9,none⟩=some (.slice U.a.lA s.live.length U.a.lC):=h.blk.cell 9
 have d4:w.cell? ⟨d,4,none⟩=some (.slice U.uA K.up.length U.uC):=h.blk.cell 4
 have HH:=aA h;have HA:=aA ha
 obtain ⟨nl,lP⟩ : ∃ nl,s.live.length=nl:=⟨_,rfl⟩
 obtain ⟨nu,hnu⟩ : ∃ nu,K.up.length=nu:=⟨_,rfl⟩
 have Nu:=aA lP;have zfJ:=aA hnu
 rw [lP] at d9;rw [hnu] at d4
 have D9:=aA d9;have D4:=aA d4
 have Lr:=h.sz.live.1
 rw [lP] at Lr
 obtain ⟨i0,eQ,hz0,hz1,eO⟩:=info_parts tU
 clear lP hnu h ha d9 d4
 go_enter Tryz.func50,Tryz.ntmps50
 go_wp2_with fail
 go_loopw [5,6] (fun s5 s6 w'=>∃ (i n:Nat) (A:Option Addr) (c:Nat),i≤nl∧s6=.int .i64 i∧s5=.slice A n c∧n≤i∧Hid (yI w P A n c (Sd K s key i) w')∧Hid (aD w w')) (fun _ s6 _=>nl - (intOf s6).toNat)
 case atStart=>exact ⟨0,0,none,0,by omega,rfl,rfl,by omega,yI.nil _ _ _,aD.refl _⟩
 case round=>
  obtain ⟨i,n,A,c,him,rfl,rfl,hni,hG,hX⟩:=hrel
  have d9:=hX.out.cell D9.out;have d4:=hX.out.cell D4.out
  by_cases hi:i<nl
  ·have zbT:(i:Int)<(nl:Int):=by omega
   obtain ⟨r,hr⟩ : ∃ r,s.live[i]?=some r:=⟨_,List.getElem?_eq_getElem (by have:=Nu.out;omega)⟩
   obtain ⟨b,off,A9,c9,hA,hc9,gU⟩:=(HH.out.now.live.keep (aF.of hX.out) (Q:=P) fun _ h=>h).rb hr
   have za0:=HH.out.sz.live.2 r (List.mem_of_getElem? hr)
   rw [hA] at d9
   have Cf:=aA (Ur (K:=K) (key:=key) hr)
   have dH:=aA gU
   obtain ⟨rl,q_⟩ : ∃ rl,r.length=rl:=⟨_,rfl⟩
   rw [q_] at dH hc9 za0
   clear hr gU q_ hA
   go_upto_region 5 with fail
   refine bW [(0,true),(1,true),(2,true),(3,true),(4,true),(5,true),(6,true),(7,true),(8,true),(9,true),(10,true),(11,true),(12,true),(14,true),(13,false),(15,false)] (fun w'=>w'.cell? ⟨d,9,none⟩=some (.slice (some ⟨b,off,none⟩) nl U.a.lC)∧w'.cell? ⟨d,4,none⟩=some (.slice U.uA nu U.uC)∧w'.cell? ⟨b,off+i,none⟩=some (.slice A9 rl c9)) (by kernel_rfl) (by kernel_rfl) (fun _ _ _ _ _ h=>h) ?_ ?_
   ·exact fun w' hw'=>⟨hw'.cell d9,hw'.cell d4,hw'.cell hc9⟩
   intro wq hwq
   have ST:=aA (show ∀ w',aD wr w'→w'.cell? ⟨d,9,none⟩=some (.slice (some ⟨b,off,none⟩) nl U.a.lC)∧w'.cell? ⟨d,4,none⟩=some (.slice U.uA nu U.uC)∧w'.cell? ⟨b,off+i,none⟩=some (.slice A9 rl c9) from fun w' hw'=>⟨hw'.cell d9,hw'.cell d4,hw'.cell hc9⟩)
   have XQ:=aA hwq
   have Vd:=aA (y8 c9 U.uC (dH.out.keep (aF.of hwq) (Q:=P) fun _ h=>h).at_ (HH.out.up.num.ext (hX.out.trans hwq)) (by omega) (by have:=HH.out.ok.up.1;omega))
   rw [zfJ.out] at Vd
   clear hwq d4 d9 hc9
   iterate 14
    unfold dO
    refine ⟨_,rfl,?_⟩
    apply Exists.intro
    refine ⟨.inl ⟨by rfl,fun w9 h9=>?_⟩,fun K hK=>?_⟩
    ·go_simp;first | done | rfl
    go_simp;refine hK _ ?_;clear hK K
   unfold dO
   refine ⟨_,rfl,?_⟩
   go_wp2_with ((with_reducible refine Vd.out.mono ?_);rintro e w3 ⟨A3,c3,rfl,o3,x3⟩;have X3:=aA (XQ.out.trans x3);have O3:=aA (aW.own o3);clear o3 x3)
   simp only [kB]
   refine ⟨ST.out w3 X3.out,?_⟩
   have zbM:=aA (oN (aE K.up r) key A3 Ak _ m c3 ck w3 O3.out (HA.out.ext (hX.out.trans X3.out)) (by have:=Gz K.up r;have:=HH.out.ok.up.1;omega))
   obtain ⟨bz,hbz⟩ : ∃ bz,bP (aE K.up r) key=bz:=⟨_,rfl⟩
   rw [hbz] at zbM Cf
   clear hbz Vd
   unfold dO
   refine ⟨_,rfl,?_⟩
   go_wp2_with ((with_reducible refine zbM.out.mono ?_);rintro e w4 ⟨rfl,x4⟩;have X4:=aA (X3.out.trans x4);clear x4)
   simp only [kB]
   refine ⟨ST.out w4 X4.out,?_⟩
   unfold dO
   have ziz:=aA (hG.out.ext X4.out);have ziH:=aA (hX.out.trans X4.out)
   have zho:=aA (dH.out.keep (aF.of X4.out) (Q:=P) fun _ h=>h)
   obtain ⟨d9,d4,hc9⟩:=ST.out w4 X4.out
   clear hG hX zbM dH
   cases bz with
   |true=>
    have rT:=Cf.out
    rw [if_pos rfl] at rT
    have Nx:=aA rT
    obtain ⟨nD,xs,zfa,sR⟩:=ziz.out
    have x5:=aD.alloc w4 (.cells #[.slice A9 rl c9] 28)
    have zb8:=aA ((aL.new w4 28 #[.slice A9 rl c9]).sl (n:=1) (size:=1) rfl)
    have X5:=aA (ziH.out.trans x5)
    have O5:=aA (zfa.ext x5);have E5:=aA (sR.mono fun cs r hr=>RB.keep hr (aF.of x5) (Q:=P) fun _ h=>h)
    have zfg:=aA (RB.keep zho.out (aF.of x5) (Q:=P) fun _ h=>h)
    have Vf:=aA nD
    have dG:=aA (show aQ [Value.slice A9 rl c9] from fun v hv=>by simp at hv;rw [hv];rfl)
    clear rT nD zfa sR x5 d4
    go_wp2_with (at_builtin;refine aI rfl (.tmp 33) (.tmp 42) _ rfl _ 28 i0 _ 1 24 Tryz.underlying36 eQ hz0 hz1 eO rfl (by omega) (.slice A n c) n xs rfl O5.out _ 1 1 _ rfl zb8.out dG.out (by unfold maxLen;omega) (by omega) ?_;intro A6 c6 w6 own6 G6 C6)
    go_roundw
    case rel=>exact ⟨i+1,n+1,A6,c6,by omega,by go_num,rfl,by omega,by
     rw [Nx.out]
     exact yI.push O5.out E5.out Vf.out zfg.out X5.out.size HH.out.lt own6.out C6.out,C6.out.ext X5.out fun b hb=>hb⟩
    case measure=>simp [intOf];omega
   |false=>
    have rT:=Cf.out
    rw [if_neg (by decide),List.append_nil] at rT
    have Nx:=aA rT
    clear rT d9 d4 hc9
    go_wp2_with fail
    go_roundw
    case rel=>exact ⟨i+1,n,A,c,by omega,by go_num,rfl,by omega,by rw [Nx.out];exact ziz.out,ziH.out⟩
    case measure=>simp [intOf];omega
  ·obtain rfl:i=nl:=by omega
   have gH:Sd K s key i=l7 K s key:=by unfold Sd l7;rw [← Nu.out,List.take_length]
   have hg:=hG.out
   rw [gH] at hg
   have ziZ:=aA hg
   clear gH hg hG d4
   go_wp2_with fail
   go_ret
   have hl:=ziZ.out.1
   refine ⟨A,c,by rw [← hl];rfl,?_,hX.out⟩
   rw [← hl]
   exact ziZ.out.told
def Qu (K:NK) (s:cR) (r:List V) (e:Ending) (w':World):Prop:=
 (inB s.live r=false∧e=.returned (.tuple #[.slice none 0 0,.bool false,.int .i64 62]))∨
 (inB s.live r=true∧∃ p,(l7 K s (aE K.up r))[p]?=some r∧
  (((l7 K s (aE K.up r))[p+1]?=none∧e=.returned (.tuple #[.slice none 0 0,.bool false,.int .i64 0]))∨
   ∃ q A c,(l7 K s (aE K.up r))[p+1]?=some q∧e=.returned (.tuple #[.slice A q.length c,.bool true,.int .i64 0])∧aW w' A q.length q))
theorem Ze {K:NK} {s:cR} {r:List V} (h:r∈s.live):r∈l7 K s (aE K.up r):=List.mem_filter.2 ⟨h,bH _⟩
theorem uK (K:NK) (s:cR) (key:List V):(l7 K s key).length≤s.live.length:=List.length_filter_le _ _
set_option maxRecDepth 100000 in
set_option maxHeartbeats 2000000 in
theorem Xj {w:World} {P:Nat→Prop} {d:Nat} {K:NK} {s:cR} {mk:Bool} {U:lS} (h:vV w P d K s mk U) {r:List V} {Ar:Option Addr} {m:Nat} (c:Nat) (ha:aW w Ar m r) (hm:m≤1048576) :
 Calls Tryz.prog 73 #[.pointer (some ⟨d,0,none⟩),.slice Ar m c] w fun e w'=>Qu K s r e w'∧aD w w':=by
 have d9:w.cell? ⟨d,9,none⟩=some (.slice U.a.lA s.live.length U.a.lC):=h.blk.cell 9
 have d4:w.cell? ⟨d,4,none⟩=some (.slice U.uA K.up.length U.uC):=h.blk.cell 4
 have Mg:=aA (yZ s.live r U.a.lA Ar s.live.length m U.a.lC c w h.now.live.lat ha (by have:=h.sz.live.1;omega) (fun q hq=>by have:=h.sz.live.2 q hq;omega))
 have HH:=aA h;have HA:=aA ha;have HM:=aA hm
 obtain ⟨nl,lP⟩ : ∃ nl,s.live.length=nl:=⟨_,rfl⟩
 obtain ⟨nu,hnu⟩ : ∃ nu,K.up.length=nu:=⟨_,rfl⟩
 have Nu:=aA lP;have zfJ:=aA hnu
 rw [lP] at d9 Mg;rw [hnu] at d4
 have D4:=aA d4
 cases hb:inB s.live r with
 |false=>
  rw [hb] at Mg
  have HB:=aA hb
  clear lP hnu h ha hm d4 hb
  go_enter Tryz.func73,Tryz.ntmps73
  go_wp2_with ((with_reducible refine Mg.out.mono ?_);rintro e w2 ⟨rfl,x2⟩;have X2:=aA x2;clear x2)
  go_ret3
  exact ⟨.inl ⟨HB.out,rfl⟩,X2.out⟩
 |true=>
  rw [hb] at Mg
  have HB:=aA hb
  clear lP hnu h ha hm d4 hb
  go_enter Tryz.func73,Tryz.ntmps73
  go_upto_region 3 with ((with_reducible refine Mg.out.mono ?_);rintro e w2 ⟨rfl,x2⟩;have X2:=aA x2;clear x2)
  have d4:=X2.out.cell D4.out
  have Vd:=aA (y8 c U.uC (HA.out.ext X2.out) (HH.out.up.num.ext X2.out) HM.out (by have:=HH.out.ok.up.1;omega))
  rw [zfJ.out] at Vd
  clear d9 Mg
  go_upto_region 4 with (first
   | ((with_reducible refine Vd.out.mono ?_);rintro e w3 ⟨A3,c3,rfl,o3,x3⟩;have X3:=aA (X2.out.trans x3);have zbo:=aA (xA (HH.out.ext (X2.out.trans x3)) c3 (aW.own o3));clear o3 x3)
   | ((with_reducible refine zbo.out.mono ?_);rintro e w4 ⟨A4,c4,rfl,t4,x4⟩;have X4:=aA (X3.out.trans x4);have T4:=aA t4;clear t4 x4))
  obtain ⟨g,hg⟩ : ∃ g,l7 K s (aE K.up r)=g:=⟨_,rfl⟩
  have nD:g.length≤131072:=by rw [← hg];have:=uK K s (aE K.up r);have:=HH.out.sz.live.1;omega
  have O0:∀ q∈g,q.length≤30:=fun q hq=>by rw [← hg] at hq;exact HH.out.sz.live.2 q (List.mem_filter.1 hq).1
  have jU:r∈g:=by rw [← hg];exact Ze (bK.1 HB.out)
  rw [hg] at T4
  have HG:=aA hg
  obtain ⟨p,hp⟩:=mQ jU
  have zfE:=iC hp
  have gE:=pF r g 0
  rw [hp] at gE
  have gE:oJ r g 0=(p:Int):=by rw [gE];simp
  have Dk:=iU g r A4 Ar g.length m c4 c w4 T4.out.lat (HA.out.ext X4.out) (by omega) (fun q hq=>by have:=O0 q hq;omega)
  rw [gE] at Dk
  have pX:=aA Dk
  obtain ⟨gl,hgl2⟩ : ∃ gl,g.length=gl:=⟨_,rfl⟩
  have zaX:p<gl:=by rw [← hgl2];exact (List.getElem?_eq_some_iff.1 zfE).1
  rw [hgl2] at pX T4 nD
  have Vf:=aA hgl2;have yT:=aA zfE;have tP:=aA O0
  obtain ⟨p1,iD⟩ : ∃ p1,p+1=p1:=⟨_,rfl⟩
  have zck:IntKind.i64.wrap ((p:Int)+1)=(p1:Int):=by rw [IntWalk.i64_in _ (by omega)];omega
  have zhQ:=aA iD
  rw [hg,hgl2]
  clear hg jU hp zfE gE Dk hgl2 O0 iD Vd zbo d4
  by_cases bC:p1<gl
  ·have wE:(p1:Int)<(gl:Int):=by omega
   obtain ⟨q,hq⟩ : ∃ q,g[p1]?=some q:=⟨_,List.getElem?_eq_getElem (by have:=Vf.out;omega)⟩
   have HQ:=aA hq
   go_wp2_with ((with_reducible refine pX.out.mono ?_);rintro e w5 ⟨rfl,x5⟩;have X5:=aA (X4.out.trans x5);obtain ⟨b9,o9,A9,c9,hA9,hc9,hr9⟩:=(T4.out.ext x5 (Q:=fun _=>True) fun _ _=>trivial).arg HQ.out;subst hA9;have R9:=aA hr9;clear x5 hr9)
   go_ret3
   exact ⟨.inr ⟨HB.out,p,by rw [HG.out];exact yT.out,.inr ⟨q,A9,c9,by rw [HG.out,zhQ.out];exact HQ.out,rfl,R9.out⟩⟩,X5.out⟩
  ·have wE:¬ (p1:Int)<(gl:Int):=by omega
   go_wp2_with ((with_reducible refine pX.out.mono ?_);rintro e w5 ⟨rfl,x5⟩;have X5:=aA (X4.out.trans x5);clear x5)
   go_ret3
   exact ⟨.inr ⟨HB.out,p,by rw [HG.out];exact yT.out,.inl ⟨by rw [HG.out,zhQ.out];exact List.getElem?_eq_none (by have:=Vf.out;omega),rfl⟩⟩,X5.out⟩
end Go.Proofs.YtahdiiaadjdmcaaGreat
