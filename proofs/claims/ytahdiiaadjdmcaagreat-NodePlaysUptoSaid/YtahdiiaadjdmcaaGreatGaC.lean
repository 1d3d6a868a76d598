import Derived.Test.YtahdiiaadjdmcaaGreatGaA
import Derived.IntWalk
import Derived.Deep.Cut
import Derived.WalkMore
namespace Go.Proofs.YtahdiiaadjdmcaaGreat
open Go.RowKit
structure fE (w:World) (B:Nat→Prop) (x cells lists:Nat) (LA:Option Addr) (cA:Nat) (LE:Option Addr) (cE:Nat) (at_ en:List L3):Prop where
 blk:aL w x 182 #[.int .i64 cells,.slice LA at_.length cA,.int .i64 lists,.slice LE en.length cE]
 oA:aJ w B 176 3 at_.length (.slice LA at_.length cA) (qG at_)
 oE:aJ w B 174 3 en.length (.slice LE en.length cE) (qG en)
 inB:B x
section
variable {w w':World} {B C:Nat→Prop} {x cells lists:Nat} {LA:Option Addr} {cA:Nat} {LE:Option Addr} {cE:Nat} {at_ en:List L3}
theorem fE.chg (h:fE w B x cells lists LA cA LE cE at_ en) (hw:aF C w w') (hC:∀ g,B g→¬ C g):fE w' B x cells lists LA cA LE cE at_ en:=
 ⟨hw.blk h.blk (hC x h.inB),h.oA.chg hw hC,h.oE.chg hw hC,h.inB⟩
theorem fE.ext (h:fE w B x cells lists LA cA LE cE at_ en) (hw:aD w w'):fE w' B x cells lists LA cA LE cE at_ en:=h.chg (C:=fun _=>False) (aF.of hw) fun _ _ x=>x
theorem fE.mono (h:fE w B x cells lists LA cA LE cE at_ en) (hC:∀ g,B g→C g):fE w C x cells lists LA cA LE cE at_ en:=⟨h.blk,h.oA.mono hC,h.oE.mono hC,hC _ h.inB⟩
theorem fE.lnk (h:fE w B x cells lists LA cA LE cE at_ en) {c:Nat} {p:L3} (hp:at_[c]?=some p) :
 ∃ g,LA=some ⟨g,0,none⟩∧B g∧g≠x∧g<w.heap.size∧w.cell? ⟨g,c*3,none⟩=some (.int .i64 p.1)∧w.cell? ⟨g,c*3+1,none⟩=some (.int .i64 p.2.1)∧w.cell? ⟨g,c*3+2,none⟩=some (.int .i64 p.2.2)∧∀ j,w.frozen? ⟨g,j,none⟩=false:=by
 obtain ⟨g,h1,h2,h3,h4,h5⟩:=h.oA.at_ (by have:=(List.getElem?_eq_some_iff.1 hp).1;omega)
 obtain ⟨k0,k1,k2⟩:=Ih hp
 refine ⟨g,h1,h2,fun e=>?_,h3,h4 _ _ k0,h4 _ _ k1,h4 _ _ k2,h5⟩
 exact dF h.oA.own h.blk (by decide) (by rw [h1,← e];rfl)
theorem fE.end_ (h:fE w B x cells lists LA cA LE cE at_ en) {c:Nat} {p:L3} (hp:en[c]?=some p) :
 ∃ g,LE=some ⟨g,0,none⟩∧B g∧g≠x∧g<w.heap.size∧w.cell? ⟨g,c*3,none⟩=some (.int .i64 p.1)∧w.cell? ⟨g,c*3+1,none⟩=some (.int .i64 p.2.1)∧w.cell? ⟨g,c*3+2,none⟩=some (.int .i64 p.2.2)∧∀ j,w.frozen? ⟨g,j,none⟩=false:=by
 obtain ⟨g,h1,h2,h3,h4,h5⟩:=h.oE.at_ (by have:=(List.getElem?_eq_some_iff.1 hp).1;omega)
 obtain ⟨k0,k1,k2⟩:=Ih hp
 refine ⟨g,h1,h2,fun e=>?_,h3,h4 _ _ k0,h4 _ _ k1,h4 _ _ k2,h5⟩
 exact dF h.oE.own h.blk (by decide) (by rw [h1,← e];rfl)
theorem fE.apart (h:fE w B x cells lists LA cA LE cE at_ en) {g k:Nat} (h1:LA=some ⟨g,0,none⟩) (h2:LE=some ⟨k,0,none⟩):g≠k:=fun e=>by
 subst e
 obtain ⟨cs,hb⟩ : ∃ cs,aL w g 174 cs:=by
  rcases h.oE.own.2 with ⟨h3,_⟩ | ⟨g',cap,cur,h3,_,h4,_⟩
  ·rw [h2] at h3;cases h3
  ·rw [h2] at h3
   injection h3 with h3 _ _
   injection h3 with h3
   injection h3 with h3
   subst h3
   exact ⟨cur,h4⟩
 exact dF h.oA.own hb (by decide) (by rw [h1];rfl)
end
set_option maxRecDepth 100000 in
theorem tL {w:World} {B:Nat→Prop} {x cells lists:Nat} {LA:Option Addr} {cA:Nat} {LE:Option Addr} {cE:Nat} {at_ en:List L3} (h:fE w B x cells lists LA cA LE cE at_ en) {c:Nat} {p:L3} (hp:at_[c]?=some p) (h0:p.1≠0) (hc:c<cells) :
 Calls Tryz.prog 111 #[.pointer (some ⟨x,0,none⟩),.int .i64 c] w fun e w'=>w'=w∧∃ g,LA=some ⟨g,0,none⟩∧e=.returned (.tuple #[.pointer (some ⟨g,c*3,none⟩),.int .i64 0]):=by
 obtain ⟨g,rfl,-,-,-,k0,-,-,-⟩:=h.lnk hp
 have a0:w.cell? ⟨x,0,none⟩=some (.int .i64 cells):=h.blk.cell 0
 have a1:w.cell? ⟨x,1,none⟩=some (.slice (some ⟨g,0,none⟩) at_.length cA):=h.blk.cell 1
 have hl:=(List.getElem?_eq_some_iff.1 hp).1
 have hz:(p.1 == 0)=false:=by simpa using h0
 have qC:at_.length≤9223372036854775807:=by
  rcases h.oA.own.2 with ⟨h3,_⟩ | ⟨g',cap,cur,h3,_,h4,h5,h6,_⟩
  ·cases h3
  ·unfold maxLen at h6;omega
 clear h hp
 go_enter Tryz.func111,Tryz.ntmps111
 go_wp2_with fail
 go_ret2
 exact ⟨rfl,g,rfl,rfl⟩
theorem za2:(Tryz.prog.info? 176).map (fun i=>(i.zero,i.size,i.bytes))=some (some (.agg #[.int .i64 0,.int .i64 0,.int .i64 0]),3,24):=by kernel_rfl
theorem zaK:(Tryz.prog.info? 174).map (fun i=>(i.zero,i.size,i.bytes))=some (some (.agg #[.int .i64 0,.int .i64 0,.int .i64 0]),3,24):=by kernel_rfl
def Rp (x j:Nat) (w:World):Nat:=match w.cell? ⟨x,j,none⟩ with | some (.slice _ n _)=>n | _=>0
theorem vZ {x j n c:Nat} {A:Option Addr} {w:World} (h:w.cell? ⟨x,j,none⟩=some (.slice A n c)):Rp x j w=n:=by unfold Rp;rw [h]
structure yV (w0 w:World) (B:Nat→Prop) (x cells lists:Nat) (LA:Option Addr) (cA:Nat) (LE:Option Addr) (cE:Nat) (at_ en:List L3) (cont:Nat→List Nat):Prop where
 mem:∃ B',fE w B' x cells lists LA cA LE cE at_ en∧(∀ b,B' b→B b∨w0.heap.size≤b)∧(∀ b,B' b→b<w.heap.size)
 ok:lU cells lists at_ en cont
 chg:aF B w0 w
theorem yV.blk {w0 w:World} {B:Nat→Prop} {x cells lists:Nat} {LA:Option Addr} {cA:Nat} {LE:Option Addr} {cE:Nat} {at_ en:List L3} {cont:Nat→List Nat} (h:yV w0 w B x cells lists LA cA LE cE at_ en cont):aL w x 182 #[.int .i64 cells,.slice LA at_.length cA,.int .i64 lists,.slice LE en.length cE]:=by
 obtain ⟨B',h1,_⟩:=h.mem
 exact h1.blk
theorem yV.pushAt {w0 w w8:World} {B B':Nat→Prop} {x cells lists:Nat} {LA:Option Addr} {cA:Nat} {LE:Option Addr} {cE:Nat} {at_ en:List L3} {cont:Nat→List Nat} {A8:Option Addr} {c8:Nat} {o:Obj}
 (h1:fE w B' x cells lists LA cA LE cE at_ en) (h2:∀ b,B' b→B b∨w0.heap.size≤b) (h3:lU cells lists at_ en cont) (h4:aF B w0 w) (hl:at_.length<cells)
 (own8:aJ w8 (fun b=>B' b∨b=(w.alloc o).heap.size) 176 3 (at_.length+1) (.slice A8 (at_.length+1) c8) (qG at_ ++ [.int .i64 0,.int .i64 0,.int .i64 0])) (G8:(w.alloc o).grownBy w8 (Value.slice LA at_.length cA).ownBlock) (C8:aF B' (w.alloc o) w8) :
 yV w0 (w8.setCell ⟨x,1,none⟩ (.slice A8 (at_.length+1) c8)) B x cells lists A8 c8 LE cE (at_ ++ [(0,0,0)]) en cont:=by
 have hx:=h1.ext (aD.alloc w o)
 have fQ:=hx.blk.grown G8 (aN hx.oA.own hx.blk (by decide))
 have Uo:=hx.oE.grown hx.oA.own (by decide) G8
 have hs:w.heap.size+1=(w.alloc o).heap.size:=(World.size_alloc w o).symm
 have hC:aF B w0 w8:=(h4.trans' (aF.of (aD.alloc w o))).trans C8 fun g hg bC=>(h2 g hg).resolve_right (by omega)
 have Ce:=h4.size
 have hB':∀ b,(B' b∨b=(w.alloc o).heap.size)→B b∨w0.heap.size≤b:=fun b hb=>by
  rcases hb with hb | hb
  ·exact h2 b hb
  ·right;omega
 refine ⟨⟨fun b=>(B' b∨b=(w.alloc o).heap.size)∧b<w8.heap.size,⟨?_,?_,?_,.inl h1.inB,?_⟩,fun b hb=>hB' b hb.1,fun b hb=>by simpa using hb.2⟩,h3.growAt hl,hC.setCell (h2 x h1.inB) _⟩
 ·have:=fQ.set_ 1 (.slice A8 (at_.length+1) c8)
  rw [List.length_append]
  simpa using this
 ·rw [List.length_append,Br]
  have:=own8.far fQ (by decide) 1 (.slice A8 (at_.length+1) c8)
  exact ⟨this.own,fun g hg=>⟨this.inB g hg,own8.lt g hg⟩⟩
 ·have:=(Uo.mono (C:=fun b=>B' b∨b=(w.alloc o).heap.size) fun g hg=>.inl hg).far fQ (by decide) 1 (.slice A8 (at_.length+1) c8)
  exact ⟨this.own,fun g hg=>⟨this.inB g hg,Uo.lt g hg⟩⟩
 ·exact fQ.lt
set_option maxRecDepth 100000 in
set_option maxHeartbeats 1000000 in
theorem Fk {w:World} {B:Nat→Prop} {x cells lists:Nat} {LA:Option Addr} {cA:Nat} {LE:Option Addr} {cE:Nat} {at_ en:List L3} {cont:Nat→List Nat} (h:fE w B x cells lists LA cA LE cE at_ en) (bC:∀ b,B b→b<w.heap.size) (vX:lU cells lists at_ en cont) {c:Nat} (hc:c<cells) (hl:∀ n,c∉cont n) (hm:cells≤1048576) :
 Calls Tryz.prog 157 #[.pointer (some ⟨x,0,none⟩),.int .i64 c] w fun e w'=>∃ (g cA':Nat) (at':List L3),e=.returned (.tuple #[.pointer (some ⟨g,c*3,none⟩),.int .i64 0])∧yV w w' B x cells lists (some ⟨g,0,none⟩) cA' LE cE at' en cont∧c<at'.length:=by
 obtain ⟨i0,eQ,hz0,hz1,eO⟩:=info_parts za2
 have HG:=aA (show yV w w B x cells lists LA cA LE cE at_ en cont from ⟨⟨B,h,fun _ hb=>.inl hb,bC⟩,vX,aF.refl _ _⟩)
 have a0:w.cell? ⟨x,0,none⟩=some (.int .i64 cells):=h.blk.cell 0
 have qC:=aA vX.cl
 clear h bC vX
 go_enter Tryz.func157,Tryz.ntmps157
 go_wp2_with fail
 clear a0
 have e1:decide ((c:Int)<0)=false:=by simp
 have e2:decide (cells≤c)=false:=by simp;omega
 simp only [e1,e2,Bool.or_false]
 clear e1 e2
 go_loopw [16] (fun _ w'=>∃ (LA':Option Addr) (cA':Nat) (at':List L3),Hid (yV w w' B x cells lists LA' cA' LE cE at' en cont)) (fun _ w'=>c+1 - Rp x 1 w')
 case atStart=>exact ⟨LA,cA,at_,HG.out⟩
 case round=>
  clear HG qC
  obtain ⟨LA',cA',at',hG⟩:=hrel
  obtain ⟨B',h1,h2,h3⟩:=hG.out.mem
  have Gr:=aA h1;have HB:=aA (And.intro h2 h3)
  have a1:wr.cell? ⟨x,1,none⟩=some (.slice LA' at'.length cA'):=h1.blk.cell 1
  have cZ:=aA (vZ a1)
  have qC:=hG.out.ok.cl
  by_cases Du:c<at'.length
  ·obtain ⟨g,rfl,-,-,-,k0,-,-,-⟩:=h1.lnk (List.getElem?_eq_getElem Du)
   have hz:=hG.out.ok.loose c at'[c] (List.getElem?_eq_getElem Du) hl
   rw [hz] at k0
   clear h1 h2 h3 hz
   go_wp2_with fail
   go_ret2
   exact ⟨g,cA',at',rfl,hG.out,Du⟩
  ·have HS:=aA (show Sl (wr.alloc (.cells #[.int .i64 0,.int .i64 0,.int .i64 0] 176)) (some ⟨wr.heap.size,0,none⟩) 1 3 [.int .i64 0,.int .i64 0,.int .i64 0] from (aL.new wr _ _).sl rfl)
   have dG:=aA (show aQ [Value.int .i64 0,.int .i64 0,.int .i64 0] from fun v hv=>by simp at hv;rw [hv];rfl)
   have HO:=aA (h1.ext (aD.alloc wr (.cells #[.int .i64 0,.int .i64 0,.int .i64 0] 176)))
   clear h1 h2 h3
   go_wp2_with (at_builtin;refine aI rfl (.tmp 27) (.tmp 29) _ rfl B' 176 i0 _ 3 24 Tryz.underlying177 eQ hz0 hz1 eO rfl (by omega) (.slice LA' at'.length cA') at'.length (qG at') rfl HO.out.oA _ 1 1 _ rfl HS.out dG.out (by unfold maxLen;omega) (by omega) ?_;intro A8 c8 w8 own8 G8 C8;have fQ:=(HO.out.blk.grown G8.out (aN HO.out.oA.own HO.out.blk (by decide)));have f8:=fQ.frozen 1;have v8:=fQ.cell 1;clear fQ)
   go_roundw
   case rel=>exact ⟨A8,c8,_,yV.pushAt Gr.out HB.out.1 hG.out.ok hG.out.chg (by omega) own8.out G8.out C8.out⟩
   case measure=>
    have h9:=(yV.pushAt Gr.out HB.out.1 hG.out.ok hG.out.chg (by omega) own8.out G8.out C8.out).blk
    have yQ:(w8.setCell ⟨x,1,none⟩ (.slice A8 (at'.length+1) c8)).cell? ⟨x,1,none⟩=some (.slice A8 (at' ++ [(0,0,0)]).length c8):=h9.cell 1
    rw [cZ.out,vZ yQ,List.length_append]
    simp;omega
theorem yV.pushEn {w0 w w8:World} {B B':Nat→Prop} {x cells lists:Nat} {LA:Option Addr} {cA:Nat} {LE:Option Addr} {cE:Nat} {at_ en:List L3} {cont:Nat→List Nat} {A8:Option Addr} {c8:Nat} {o:Obj}
 (h1:fE w B' x cells lists LA cA LE cE at_ en) (h2:∀ b,B' b→B b∨w0.heap.size≤b) (h3:lU cells lists at_ en cont) (h4:aF B w0 w) (hl:en.length<lists)
 (own8:aJ w8 (fun b=>B' b∨b=(w.alloc o).heap.size) 174 3 (en.length+1) (.slice A8 (en.length+1) c8) (qG en ++ [.int .i64 (-1),.int .i64 (-1),.int .i64 0])) (G8:(w.alloc o).grownBy w8 (Value.slice LE en.length cE).ownBlock) (C8:aF B' (w.alloc o) w8) :
 yV w0 (w8.setCell ⟨x,3,none⟩ (.slice A8 (en.length+1) c8)) B x cells lists LA cA A8 c8 at_ (en ++ [(-1,-1,0)]) cont:=by
 have hx:=h1.ext (aD.alloc w o)
 have fQ:=hx.blk.grown G8 (aN hx.oE.own hx.blk (by decide))
 have Uo:=hx.oA.grown hx.oE.own (by decide) G8
 have hs:w.heap.size+1=(w.alloc o).heap.size:=(World.size_alloc w o).symm
 have hC:aF B w0 w8:=(h4.trans' (aF.of (aD.alloc w o))).trans C8 fun g hg bC=>(h2 g hg).resolve_right (by omega)
 have Ce:=h4.size
 have hB':∀ b,(B' b∨b=(w.alloc o).heap.size)→B b∨w0.heap.size≤b:=fun b hb=>by
  rcases hb with hb | hb
  ·exact h2 b hb
  ·right;omega
 refine ⟨⟨fun b=>(B' b∨b=(w.alloc o).heap.size)∧b<w8.heap.size,⟨?_,?_,?_,.inl h1.inB,?_⟩,fun b hb=>hB' b hb.1,fun b hb=>by simpa using hb.2⟩,h3.growEn hl,hC.setCell (h2 x h1.inB) _⟩
 ·have:=fQ.set_ 3 (.slice A8 (en.length+1) c8)
  rw [List.length_append]
  simpa using this
 ·have:=(Uo.mono (C:=fun b=>B' b∨b=(w.alloc o).heap.size) fun g hg=>.inl hg).far fQ (by decide) 3 (.slice A8 (en.length+1) c8)
  exact ⟨this.own,fun g hg=>⟨this.inB g hg,Uo.lt g hg⟩⟩
 ·rw [List.length_append,Br]
  have:=own8.far fQ (by decide) 3 (.slice A8 (en.length+1) c8)
  exact ⟨this.own,fun g hg=>⟨this.inB g hg,own8.lt g hg⟩⟩
 ·exact fQ.lt
set_option maxRecDepth 100000 in
set_option maxHeartbeats 1000000 in
theorem v6 {w:World} {B:Nat→Prop} {x cells lists:Nat} {LA:Option Addr} {cA:Nat} {LE:Option Addr} {cE:Nat} {at_ en:List L3} {cont:Nat→List Nat} (h:fE w B x cells lists LA cA LE cE at_ en) (bC:∀ b,B b→b<w.heap.size) (vX:lU cells lists at_ en cont) {c:Nat} (hc:c<lists) (hm:lists≤1048577) :
 Calls Tryz.prog 100 #[.pointer (some ⟨x,0,none⟩),.int .i64 c] w fun e w'=>∃ (g cE':Nat) (en':List L3),e=.returned (.tuple #[.pointer (some ⟨g,c*3,none⟩),.int .i64 0])∧yV w w' B x cells lists LA cA (some ⟨g,0,none⟩) cE' at_ en' cont∧c<en'.length:=by
 obtain ⟨i0,eQ,hz0,hz1,eO⟩:=info_parts zaK
 have HG:=aA (show yV w w B x cells lists LA cA LE cE at_ en cont from ⟨⟨B,h,fun _ hb=>.inl hb,bC⟩,vX,aF.refl _ _⟩)
 have a0:w.cell? ⟨x,2,none⟩=some (.int .i64 lists):=h.blk.cell 2
 have qC:=aA vX.el
 clear h bC vX
 go_enter Tryz.func100,Tryz.ntmps100
 go_wp2_with fail
 clear a0
 have e1:decide ((c:Int)<0)=false:=by simp
 have e2:decide (lists≤c)=false:=by simp;omega
 simp only [e1,e2,Bool.or_false]
 clear e1 e2
 go_loopw [16] (fun _ w'=>∃ (LE':Option Addr) (cE':Nat) (en':List L3),Hid (yV w w' B x cells lists LA cA LE' cE' at_ en' cont)) (fun _ w'=>c+1 - Rp x 3 w')
 case atStart=>exact ⟨LE,cE,en,HG.out⟩
 case round=>
  clear HG qC
  obtain ⟨LE',cE',en',hG⟩:=hrel
  obtain ⟨B',h1,h2,h3⟩:=hG.out.mem
  have Gr:=aA h1;have HB:=aA (And.intro h2 h3)
  have a1:wr.cell? ⟨x,3,none⟩=some (.slice LE' en'.length cE'):=h1.blk.cell 3
  have cZ:=aA (vZ a1)
  have qC:=hG.out.ok.el
  by_cases Du:c<en'.length
  ·obtain ⟨g,rfl,-,-,-,k0,-,-,-⟩:=h1.end_ (List.getElem?_eq_getElem Du)
   clear h1 h2 h3
   go_wp2_with fail
   go_ret2
   exact ⟨g,cE',en',rfl,hG.out,Du⟩
  ·have HS:=aA (show Sl (wr.alloc (.cells #[.int .i64 (-1),.int .i64 (-1),.int .i64 0] 174)) (some ⟨wr.heap.size,0,none⟩) 1 3 [.int .i64 (-1),.int .i64 (-1),.int .i64 0] from (aL.new wr _ _).sl rfl)
   have dG:=aA (show aQ [Value.int .i64 (-1),.int .i64 (-1),.int .i64 0] from fun v hv=>by
    simp at hv
    rcases hv with rfl | rfl <;> rfl)
   have HO:=aA (h1.ext (aD.alloc wr (.cells #[.int .i64 (-1),.int .i64 (-1),.int .i64 0] 174)))
   clear h1 h2 h3
   go_wp2_with (at_builtin;refine aI rfl (.tmp 27) (.tmp 29) _ rfl B' 174 i0 _ 3 24 Tryz.underlying180 eQ hz0 hz1 eO rfl (by omega) (.slice LE' en'.length cE') en'.length (qG en') rfl HO.out.oE _ 1 1 _ rfl HS.out dG.out (by unfold maxLen;omega) (by omega) ?_;intro A8 c8 w8 own8 G8 C8;have fQ:=(HO.out.blk.grown G8.out (aN HO.out.oE.own HO.out.blk (by decide)));have f8:=fQ.frozen 3;have v8:=fQ.cell 3;clear fQ)
   go_roundw
   case rel=>exact ⟨A8,c8,_,yV.pushEn Gr.out HB.out.1 hG.out.ok hG.out.chg (by omega) own8.out G8.out C8.out⟩
   case measure=>
    have h9:=(yV.pushEn Gr.out HB.out.1 hG.out.ok hG.out.chg (by omega) own8.out G8.out C8.out).blk
    have yQ:(w8.setCell ⟨x,3,none⟩ (.slice A8 (en'.length+1) c8)).cell? ⟨x,3,none⟩=some (.slice A8 (en' ++ [(-1,-1,0)]).length c8):=h9.cell 3
    rw [cZ.out,vZ yQ,List.length_append]
    simp;omega
section
variable {w:World} {B:Nat→Prop} {x cells lists:Nat} {LA:Option Addr} {cA:Nat} {LE:Option Addr} {cE:Nat} {at_ en:List L3}
theorem Lb {e:TypeId} {s n c g:Nat} {xs:List Value} (h:w.ownsRow 0 e s (.slice (some ⟨g,0,none⟩) n c) n xs):∃ cs,aL w g e cs:=by
 rcases h.2 with ⟨h3,_⟩ | ⟨g',cap,cur,h3,_,h4,_⟩
 ·cases h3
 ·injection h3 with h3 _ _
  injection h3 with h3
  injection h3 with h3
  subst h3
  exact ⟨cur,h4⟩
theorem fE.putA {g j:Nat} {u:Value} {at':List L3} (h:fE w B x cells lists (some ⟨g,0,none⟩) cA LE cE at_ en) (h1:(qG at_).set j u=qG at') (h2:at'.length=at_.length):fE (w.setCell ⟨g,j,none⟩ u) B x cells lists (some ⟨g,0,none⟩) cA LE cE at' en:=by
 obtain ⟨cs,hb⟩:=Lb h.oA.own
 have hx:x≠g:=fun e=>by
  subst e
  exact dF h.oA.own h.blk (by decide) rfl
 refine ⟨?_,?_,h.oE.far hb (by decide) j u,h.inB⟩
 ·rw [h2];exact h.blk.far (p:=⟨g,j,none⟩) hx u
 ·rw [h2,← h1];exact h.oA.put j u
theorem fE.putE {g j:Nat} {u:Value} {en':List L3} (h:fE w B x cells lists LA cA (some ⟨g,0,none⟩) cE at_ en) (h1:(qG en).set j u=qG en') (h2:en'.length=en.length):fE (w.setCell ⟨g,j,none⟩ u) B x cells lists LA cA (some ⟨g,0,none⟩) cE at_ en':=by
 obtain ⟨cs,hb⟩:=Lb h.oE.own
 have hx:x≠g:=fun e=>by
  subst e
  exact dF h.oE.own h.blk (by decide) rfl
 refine ⟨?_,h.oA.far hb (by decide) j u,?_,h.inB⟩
 ·rw [h2];exact h.blk.far (p:=⟨g,j,none⟩) hx u
 ·rw [h2,← h1];exact h.oE.put j u
theorem fE.setA {g i:Nat} (h:fE w B x cells lists (some ⟨g,0,none⟩) cA LE cE at_ en) (y:L3):fE (((w.setCell ⟨g,i*3,none⟩ (.int .i64 y.1)).setCell ⟨g,i*3+1,none⟩ (.int .i64 y.2.1)).setCell ⟨g,i*3+2,none⟩ (.int .i64 y.2.2)) B x cells lists (some ⟨g,0,none⟩) cA LE cE (at_.set i y) en:=by
 have h1:=h.putA (u:=.int .i64 y.1) (kW at_ i y.1) (by simp)
 have h2:=h1.putA (u:=.int .i64 y.2.1) (jN _ i y.2.1) (by simp)
 have h3:=h2.putA (u:=.int .i64 y.2.2) (iP _ i y.2.2) (by simp)
 have e:=κ at_ i y
 rw [kW,jN,iP] at e
 refine ⟨?_,?_,h3.oE,h3.inB⟩
 ·have:=h3.blk
  simpa using this
 ·have:=h3.oA
  rw [e] at this
  simpa using this
theorem fE.setNext {g p:Nat} {v:Int} (h:fE w B x cells lists (some ⟨g,0,none⟩) cA LE cE at_ en):fE (w.setCell ⟨g,p*3+2,none⟩ (.int .i64 v)) B x cells lists (some ⟨g,0,none⟩) cA LE cE (setNext at_ (some p) v) en:=h.putA (iP at_ p v) (nH _ _ _)
theorem fE.setPrev {g p:Nat} {v:Int} (h:fE w B x cells lists (some ⟨g,0,none⟩) cA LE cE at_ en):fE (w.setCell ⟨g,p*3+1,none⟩ (.int .i64 v)) B x cells lists (some ⟨g,0,none⟩) cA LE cE (setPrev at_ (some p) v) en:=h.putA (jN at_ p v) (qQ _ _ _)
end
def dU (e:List L3) (n:Nat) (v:Int):List L3:=e.modify n fun x=>(x.1,x.2.1,v)
def eN (e:List L3) (n:Nat) (v:Int):List L3:=e.modify n fun x=>(v,x.2.1,x.2.2)
def jE (e:List L3) (n:Nat) (v:Int):List L3:=e.modify n fun x=>(x.1,v,x.2.2)
theorem u7 {e:List L3} {n c:Nat} {y:L3} (hy:e[n]?=some y) (p q:Option Nat) :
 (let e1:=dU e n (y.2.2+1)
  let e2:=if p=none then eN e1 n c else e1
  if q=none then jE e2 n c else e2)=Bz e n c p q:=by
 apply List.ext_getElem?
 intro j
 unfold Bz dU
 rw [iX]
 by_cases hj:n=j
 ·subst hj
  rw [if_pos rfl,hy]
  rcases p with _ | p <;> rcases q with _ | q
  ·simp [eN,jE,hy]
  ·simp [eN,hy]
  ·simp [jE,hy]
  ·simp [hy]
 ·rw [if_neg hj]
  rcases p with _ | p <;> rcases q with _ | q
  ·simp [eN,jE,hj]
  ·simp [eN,hj]
  ·simp [jE,hj]
  ·simp [hj]
set_option maxRecDepth 100000 in
set_option maxHeartbeats 1000000 in
theorem As {w:World} {B:Nat→Prop} {x cells lists:Nat} {LA:Option Addr} {cA:Nat} {LE:Option Addr} {cE:Nat} {at_ en:List L3} (h:fE w B x cells lists LA cA LE cE at_ en) {n c:Nat} {p q:Option Nat} (hn:n<en.length) (hc:c<at_.length) (pT:en.length≤1048577) (oZ:∀ y,en[n]?=some y→0≤y.2.2∧y.2.2≤1048576)
 (hp:∀ y,p=some y→y<at_.length∧y≠c) (hq:∀ y,q=some y→y<at_.length∧y≠c) :
 Calls Tryz.prog 158 #[.pointer (some ⟨x,0,none⟩),.int .i64 n,.int .i64 c,.int .i64 (oi p),.int .i64 (oi q)] w fun e w'=>e=.returned (.tuple #[])∧fE w' B x cells lists LA cA LE cE (Fp at_ n c p q) (Bz en n c p q)∧aF B w w':=by
 have hy:en[n]?=some en[n]:=List.getElem?_eq_getElem hn
 generalize en[n]=y at hy
 have hz:at_[c]?=some at_[c]:=List.getElem?_eq_getElem hc
 generalize at_[c]=z at hz
 have zeS:=aA hy
 obtain ⟨g,rfl,hgB,rV,nD,k0,k1,k2,kf⟩:=h.lnk hz
 obtain ⟨g',rfl,hgB',hgx',hgl',e0,e1,e2,ef⟩:=h.end_ hy
 have ze9:=h.apart rfl rfl
 have a1:w.cell? ⟨x,1,none⟩=some (.slice (some ⟨g,0,none⟩) at_.length cA):=h.blk.cell 1
 have a3:w.cell? ⟨x,3,none⟩=some (.slice (some ⟨g',0,none⟩) en.length cE):=h.blk.cell 3
 have n1:=Ne.symm rV;have n2:=Ne.symm hgx';have n3:=Ne.symm ze9
 have jQ:=aA (And.intro h.inB (And.intro hgB hgB'))
 have HL:=aA (fun (p:Nat) (hp:p<at_.length)=>h.lnk (List.getElem?_eq_getElem hp))
 have HP:=aA hp;have HQ:=aA hq
 have zkK:=oZ y hy
 have H:=aA h
 clear h hy hz hp hq oZ
 rcases p with _ | p <;> rcases q with _ | q
 ·-- none none
  simp only [oi]
  go_enter Tryz.func158,Tryz.ntmps158
  go_wp2_with fail
  go_end0
  have h1:=(H.out.setA (i:=c) ((n:Int)+1,oi none,oi none)).putE (u:=.int .i64 (y.2.2+1)) (iP en n (y.2.2+1)) (by simp)
  have h2:=h1.putE (u:=.int .i64 (c:Int)) (kW _ n (c:Int)) (by simp)
  have h3:=h2.putE (u:=.int .i64 (c:Int)) (jN _ n (c:Int)) (by simp)
  have he:=u7 (c:=c) zeS.out none none
  simp only [dU,eN,jE,if_true] at he
  rw [← he]
  exact ⟨rfl,h3,((((((aF.refl B w).setCell (p:=⟨g,c*3,none⟩) (.inl jQ.out.2.1) _).setCell (p:=⟨g,c*3+1,none⟩) (.inl jQ.out.2.1) _).setCell (p:=⟨g,c*3+2,none⟩) (.inl jQ.out.2.1) _).setCell (p:=⟨g',n*3+2,none⟩) (.inl jQ.out.2.2) _).setCell (p:=⟨g',n*3,none⟩) (.inl jQ.out.2.2) _).setCell (p:=⟨g',n*3+1,none⟩) (.inl jQ.out.2.2) _⟩
 ·-- none some
  simp only [oi]
  obtain ⟨hql,hqc⟩:=HQ.out q rfl
  obtain ⟨gq,egq,-,-,-,q0,q1,q2,-⟩:=HL.out q hql
  obtain rfl:g=gq:=by injection egq with egq;injection egq
  have K_:¬ ((q:Int)<0):=by omega
  have d3:q*3+1≠c*3:=by omega
  have d4:q*3+1≠c*3+1:=by omega
  have d5:q*3+1≠c*3+2:=by omega
  clear q0 q2 egq
  go_enter Tryz.func158,Tryz.ntmps158
  go_wp2_with fail
  go_end0
  have h1:=(H.out.setA (i:=c) ((n:Int)+1,oi none,oi (some q))).putE (u:=.int .i64 (y.2.2+1)) (iP en n (y.2.2+1)) (by simp)
  have h2:=h1.putE (u:=.int .i64 (c:Int)) (kW _ n (c:Int)) (by simp)
  have h3:=h2.setPrev (p:=q) (v:=(c:Int))
  have he:=u7 (c:=c) zeS.out none (some q)
  simp only [dU,eN,if_true,reduceCtorEq,if_false] at he
  rw [← he]
  exact ⟨rfl,h3,((((((aF.refl B w).setCell (p:=⟨g,c*3,none⟩) (.inl jQ.out.2.1) _).setCell (p:=⟨g,c*3+1,none⟩) (.inl jQ.out.2.1) _).setCell (p:=⟨g,c*3+2,none⟩) (.inl jQ.out.2.1) _).setCell (p:=⟨g',n*3+2,none⟩) (.inl jQ.out.2.2) _).setCell (p:=⟨g',n*3,none⟩) (.inl jQ.out.2.2) _).setCell (p:=⟨g,q*3+1,none⟩) (.inl jQ.out.2.1) _⟩
 ·-- some none
  simp only [oi]
  obtain ⟨Dk,D_⟩:=HP.out p rfl
  obtain ⟨gp,egp,-,-,-,p0,p1,p2,-⟩:=HL.out p Dk
  obtain rfl:g=gp:=by injection egp with egp;injection egp
  have Yz:¬ ((p:Int)<0):=by omega
  have d0:p*3+2≠c*3:=by omega
  have d1:p*3+2≠c*3+1:=by omega
  have d2:p*3+2≠c*3+2:=by omega
  clear p0 p1 egp
  go_enter Tryz.func158,Tryz.ntmps158
  go_wp2_with fail
  go_end0
  have h1:=(H.out.setA (i:=c) ((n:Int)+1,oi (some p),oi none)).putE (u:=.int .i64 (y.2.2+1)) (iP en n (y.2.2+1)) (by simp)
  have h2:=h1.setNext (p:=p) (v:=(c:Int))
  have h3:=h2.putE (u:=.int .i64 (c:Int)) (jN _ n (c:Int)) (by simp)
  have he:=u7 (c:=c) zeS.out (some p) none
  simp only [dU,jE,if_true,reduceCtorEq,if_false] at he
  rw [← he]
  exact ⟨rfl,h3,((((((aF.refl B w).setCell (p:=⟨g,c*3,none⟩) (.inl jQ.out.2.1) _).setCell (p:=⟨g,c*3+1,none⟩) (.inl jQ.out.2.1) _).setCell (p:=⟨g,c*3+2,none⟩) (.inl jQ.out.2.1) _).setCell (p:=⟨g',n*3+2,none⟩) (.inl jQ.out.2.2) _).setCell (p:=⟨g,p*3+2,none⟩) (.inl jQ.out.2.1) _).setCell (p:=⟨g',n*3+1,none⟩) (.inl jQ.out.2.2) _⟩
 ·-- some some
  simp only [oi]
  obtain ⟨Dk,D_⟩:=HP.out p rfl
  obtain ⟨gp,egp,-,-,-,p0,p1,p2,-⟩:=HL.out p Dk
  obtain rfl:g=gp:=by injection egp with egp;injection egp
  have Yz:¬ ((p:Int)<0):=by omega
  have d0:p*3+2≠c*3:=by omega
  have d1:p*3+2≠c*3+1:=by omega
  have d2:p*3+2≠c*3+2:=by omega
  clear p0 p1 egp
  obtain ⟨hql,hqc⟩:=HQ.out q rfl
  obtain ⟨gq,egq,-,-,-,q0,q1,q2,-⟩:=HL.out q hql
  obtain rfl:g=gq:=by injection egq with egq;injection egq
  have K_:¬ ((q:Int)<0):=by omega
  have d3:q*3+1≠c*3:=by omega
  have d4:q*3+1≠c*3+1:=by omega
  have d5:q*3+1≠c*3+2:=by omega
  clear q0 q2 egq
  have d6:q*3+1≠p*3+2:=by omega
  go_enter Tryz.func158,Tryz.ntmps158
  go_wp2_with fail
  go_end0
  have h1:=(H.out.setA (i:=c) ((n:Int)+1,oi (some p),oi (some q))).putE (u:=.int .i64 (y.2.2+1)) (iP en n (y.2.2+1)) (by simp)
  have h2:=h1.setNext (p:=p) (v:=(c:Int))
  have h3:=h2.setPrev (p:=q) (v:=(c:Int))
  have he:=u7 (c:=c) zeS.out (some p) (some q)
  simp only [dU,reduceCtorEq,if_false] at he
  rw [← he]
  exact ⟨rfl,h3,((((((aF.refl B w).setCell (p:=⟨g,c*3,none⟩) (.inl jQ.out.2.1) _).setCell (p:=⟨g,c*3+1,none⟩) (.inl jQ.out.2.1) _).setCell (p:=⟨g,c*3+2,none⟩) (.inl jQ.out.2.1) _).setCell (p:=⟨g',n*3+2,none⟩) (.inl jQ.out.2.2) _).setCell (p:=⟨g,p*3+2,none⟩) (.inl jQ.out.2.1) _).setCell (p:=⟨g,q*3+1,none⟩) (.inl jQ.out.2.1) _⟩
structure rU (w:World) (B:Nat→Prop) (x cells lists:Nat) (cont:Nat→List Nat):Prop where
 mem:∃ LA cA LE cE at_ en,fE w B x cells lists LA cA LE cE at_ en∧lU cells lists at_ en cont
 lt:∀ b,B b→b<w.heap.size
 cm:cells≤1048576
 lm:lists≤1048577
theorem rU.chg {w w':World} {B C:Nat→Prop} {x cells lists:Nat} {cont:Nat→List Nat} (h:rU w B x cells lists cont) (hw:aF C w w') (hC:∀ g,B g→¬ C g):rU w' B x cells lists cont:=by
 obtain ⟨LA,cA,LE,cE,at_,en,h1,h2⟩:=h.mem
 exact ⟨⟨LA,cA,LE,cE,at_,en,h1.chg hw hC,h2⟩,fun b hb=>Nat.lt_of_lt_of_le (h.lt b hb) hw.size,h.cm,h.lm⟩
theorem rU.ext {w w':World} {B:Nat→Prop} {x cells lists:Nat} {cont:Nat→List Nat} (h:rU w B x cells lists cont) (hw:aD w w'):rU w' B x cells lists cont:=h.chg (C:=fun _=>False) (aF.of hw) fun _ _ x=>x
def qc (w:World) (B:Nat→Prop) (x cells lists:Nat) (cont:Nat→List Nat) (w':World):Prop:=∃ B',rU w' B' x cells lists cont∧(∀ b,B' b→B b∨w.heap.size≤b)∧aF B w w'
theorem qc.of {w w':World} {B:Nat→Prop} {x cells lists:Nat} {LA:Option Addr} {cA:Nat} {LE:Option Addr} {cE:Nat} {at_ en:List L3} {cont:Nat→List Nat} (h:yV w w' B x cells lists LA cA LE cE at_ en cont) (hc:cells≤1048576) (hl:lists≤1048577):qc w B x cells lists cont w':=by
 obtain ⟨B',h1,h2,h3⟩:=h.mem
 exact ⟨B',⟨⟨LA,cA,LE,cE,at_,en,h1,h.ok⟩,h3,hc,hl⟩,h2,h.chg⟩
theorem yV.step {w0 w w':World} {B B':Nat→Prop} {x cells lists:Nat} {LA:Option Addr} {cA:Nat} {LE:Option Addr} {cE:Nat} {at_ en:List L3} {cont:Nat→List Nat} (h1:∀ b,B' b→B b∨w0.heap.size≤b) (h2:aF B w0 w) (h:yV w w' B' x cells lists LA cA LE cE at_ en cont):yV w0 w' B x cells lists LA cA LE cE at_ en cont:=by
 obtain ⟨B2,h3,h4,h5⟩:=h.mem
 refine ⟨⟨B2,h3,fun b hb=>?_,h5⟩,h.ok,h2.trans h.chg fun g hg bC=>(h1 g hg).resolve_right (by omega)⟩
 rcases h4 b hb with h6 | h6
 ·exact h1 b h6
 ·have:=h2.size;right;omega
theorem yV.ins {w0 w w':World} {B B':Nat→Prop} {x cells lists:Nat} {LA:Option Addr} {cA:Nat} {LE:Option Addr} {cE:Nat} {at_ en at' en':List L3} {cont cont':Nat→List Nat} (h:yV w0 w B x cells lists LA cA LE cE at_ en cont) (h1:∀ b,B' b→B b∨w0.heap.size≤b) (h2:∀ b,B' b→b<w.heap.size) (h3:fE w' B' x cells lists LA cA LE cE at' en') (h4:aF B' w w') (h5:lU cells lists at' en' cont'):yV w0 w' B x cells lists LA cA LE cE at' en' cont':=
 ⟨⟨B',h3,h1,fun b hb=>Nat.lt_of_lt_of_le (h2 b hb) h4.size⟩,h5,h.chg.trans h4 fun g hg bC=>(h1 g hg).resolve_right (by omega)⟩
set_option maxRecDepth 100000 in
theorem Pb {w:World} {B:Nat→Prop} {x cells lists:Nat} {cont:Nat→List Nat} (h:rU w B x cells lists cont) {n c:Nat} (hn:n<lists) (hc:c<cells) (hl:∀ m,c∉cont m) :
 Calls Tryz.prog 151 #[.pointer (some ⟨x,0,none⟩),.int .i64 n,.int .i64 c] w fun e w'=>e=.returned (.int .i64 0)∧qc w B x cells lists (jV cont n (cont n ++ [c])) w':=by
 obtain ⟨LA,cA,LE,cE,at_,en,h1,h2⟩:=h.mem
 have HL:=aA (v6 h1 h.lt h2 hn h.lm)
 have Ve:=h.cm;have Ej:=h.lm
 clear h h1 h2
 go_enter Tryz.func151,Tryz.ntmps151
 go_upto_region 2 with ((with_reducible refine HL.out.mono ?_);rintro e w1 ⟨g,cE',en',rfl,hG1,m7⟩;have wA:=aA hG1;clear hG1)
 clear HL
 obtain ⟨B1,m1,m2,m3⟩:=wA.out.mem
 have HO:=aA (Fk m1 m3 wA.out.ok hc hl Ve)
 have HB:=aA (And.intro m1 (And.intro m2 m3))
 clear m1 m2 m3
 go_upto_region 5 with ((with_reducible refine HO.out.mono ?_);rintro e w2 ⟨ga,cA',at',rfl,hG2,mG⟩;have z6:=aA hG2;clear hG2)
 clear HO
 obtain ⟨B2,k1,k2,k3⟩:=z6.out.mem
 have zhb:en'[n]?=some (oi (cont n).head?,oi (cont n).getLast?,((cont n).length:Int)):=by
  rw [List.getElem?_eq_getElem m7]
  exact congrArg some (z6.out.ok.ends n _ (List.getElem?_eq_getElem m7))
 obtain ⟨g2,eg,-,-,-,e0,e1,e2,-⟩:=k1.end_ zhb
 obtain rfl:g=g2:=by injection eg with eg;injection eg
 have qC:(cont n).length≤1048576:=by
  have hb:∀ y∈cont n,y<at'.length:=fun y hy=>(z6.out.ok.lt hy).1
  have:=kP _ _ (z6.out.ok.nd n) hb
  have:=z6.out.ok.cl
  omega
 have zco:=z6.out.ok.el
 have HI:=aA (As (p:=(cont n).getLast?) (q:=none) k1 m7 mG (by omega) (fun y hy=>by rw [zhb] at hy;injection hy with hy;subst hy;simp only;omega) (fun y hy=>⟨(z6.out.ok.lt (List.mem_of_getLast? hy)).1,fun e=>hl n (e ▸ List.mem_of_getLast? hy)⟩) (fun y hy=>by cases hy))
 have xK:=aA (z6.out.ok.ins (A:=cont n) (B:=[]) m7 mG hl (by simp))
 have HK:=aA (And.intro k1 (And.intro k2 k3))
 clear k1 k2 k3 e0 e2 zhb eg zco qC
 dsimp only at e1
 have ho:oi (none:Option Nat) = -1:=rfl
 rw [ho] at HI
 go_wp2_with ((with_reducible refine HI.out.mono ?_);rintro e w3 ⟨rfl,h3,h4⟩;have H3:=aA h3;have H4:=aA h4;clear h3 h4 e1)
 go_ret
 exact ⟨rfl,qc.of (((yV.step HB.out.2.1 wA.out.chg z6.out).ins (fun b hb=>by
  rcases HK.out.2.1 b hb with h9 | h9
  ·exact HB.out.2.1 b h9
  ·have:=wA.out.chg.size;right;omega) HK.out.2.2 H3.out H4.out xK.out)) Ve Ej⟩
set_option maxRecDepth 100000 in
theorem Mv {w:World} {B:Nat→Prop} {x cells lists:Nat} {cont:Nat→List Nat} (h:rU w B x cells lists cont) {n c m:Nat} {A D:List Nat} (hAD:cont n=A ++ m :: D) (hc:c<cells) (hl:∀ m,c∉cont m) :
 Calls Tryz.prog 150 #[.pointer (some ⟨x,0,none⟩),.int .i64 c,.int .i64 m] w fun e w'=>e=.returned (.int .i64 0)∧qc w B x cells lists (jV cont n (A ++ c :: m :: D)) w':=by
 obtain ⟨LA,cA,LE,cE,at_,en,h1,h2⟩:=h.mem
 have zbE:m∈cont n:=by rw [hAD];simp
 have zjt:m<cells:=Nat.lt_of_lt_of_le (h2.lt zbE).1 h2.cl
 have HL:=aA (tL h1 (h2.lnk n m zbE) (by simp only;omega) zjt)
 have HO:=aA (Fk h1 h.lt h2 hc hl h.cm)
 have Ve:=h.cm;have Ej:=h.lm
 clear h h1 h2
 go_enter Tryz.func150,Tryz.ntmps150
 go_upto_region 3 with (first
  | ((with_reducible refine HL.out.mono ?_);rintro e w1 ⟨rfl,g0,kY,rfl⟩;subst kY)
  | ((with_reducible refine HO.out.mono ?_);rintro e w2 ⟨ga,cA',at',rfl,hG2,mG⟩;have z6:=aA hG2;clear hG2))
 clear HL HO
 obtain ⟨B2,k1,k2,k3⟩:=z6.out.mem
 have hp:=z6.out.ok.lnk n m zbE
 obtain ⟨g2,eg,-,-,-,e0,e1,-,-⟩:=k1.lnk hp
 obtain rfl:ga=g2:=by injection eg with eg;injection eg
 have zgC:=(z6.out.ok.lt zbE).1
 have qC:=z6.out.ok.cl
 have lP:=(z6.out.ok.lt zbE).2
 have zco:=z6.out.ok.el
 have zfD:c≠m:=fun e=>hl n (e ▸ zbE)
 have Dk:∀ y,A.getLast?=some y→y∈cont n:=fun y hy=>by rw [hAD];exact List.mem_append_left _ (List.mem_of_getLast? hy)
 have jP:(A ++ m :: D).Nodup:=by rw [← hAD];exact z6.out.ok.nd n
 have zhE:iG (cont n) m=A.getLast?:=by rw [hAD];exact tB jP
 have Du:(cont n).length≤1048576:=by
  have hb:∀ y∈cont n,y<at'.length:=fun y hy=>(z6.out.ok.lt hy).1
  have:=kP _ _ (z6.out.ok.nd n) hb
  omega
 have HI:=aA (fun wq (hx:aD w2 wq)=>As (p:=A.getLast?) (q:=some m) (k1.ext hx) lP mG (by omega) (fun y hy=>by have:=z6.out.ok.ends n y hy;subst this;simp only;omega) (fun y hy=>⟨(z6.out.ok.lt (Dk y hy)).1,fun e=>hl n (e ▸ Dk y hy)⟩) (fun y hy=>by injection hy with hy;subst hy;exact ⟨zgC,fun e=>zfD e.symm⟩))
 have xK:=aA (z6.out.ok.ins (A:=A) (B:=m :: D) lP mG hl hAD)
 have HK:=aA (And.intro k1 (And.intro k2 k3))
 have a1:w2.cell? ⟨x,1,none⟩=some (.slice (some ⟨ga,0,none⟩) at'.length cA'):=k1.blk.cell 1
 rw [zhE] at e1
 dsimp only at e0 e1
 have ho:oi (some m)=(m:Int):=rfl
 rw [ho] at HI
 have zam:IntKind.i64.wrap ((n:Int)+1 - 1)=(n:Int):=by rw [show (n:Int)+1 - 1=n by omega];exact IntWalk.i64_in _ (by omega)
 clear k1 k2 k3 hp eg Dk jP zhE zbE hAD Du hl
 go_upto_region 10 with fail
 have e0:=aB e0
 have e1:=aB e1
 clear a1
 refine aC 12 (by kernel_rfl) (by kernel_rfl) (by kernel_rfl) ?_
 iterate 12
  refine aK (by kernel_rfl) (by kernel_rfl) ?_
  apply Exists.intro
  refine ⟨fun w1 aT=>?_,fun K hK=>?_⟩
  ·go_simp;first | done | rfl
  go_simp;refine hK _ _ ?_;clear hK K
 refine aH ⟨rfl,by kernel_rfl,fun wq hwq=>?_⟩
 simp only [bL,List.drop]
 clear e0 e1 zam
 have HIq:=aA (HI.out wq hwq)
 have HX:=aA hwq
 clear HI hwq
 go_wp2_with ((with_reducible refine HIq.out.mono ?_);rintro e w3 ⟨rfl,h3,h4⟩;have H3:=aA h3;have H4:=aA h4;clear h3 h4)
 go_ret
 exact ⟨rfl,qc.of (z6.out.ins HK.out.2.1 HK.out.2.2 H3.out ((aF.of HX.out).trans' H4.out) xK.out) Ve Ej⟩
set_option maxRecDepth 100000 in
theorem Tm (cells lists:Nat) (w:World) (h1:1≤cells) (h2:cells≤1048576) (h3:1≤lists) (h4:lists≤1048576) :
 Calls Tryz.prog 95 #[.int .i64 cells,.int .i64 lists] w fun e w'=>∃ x,e=.returned (.tuple #[.pointer (some ⟨x,0,none⟩),.int .i64 0])∧rU w' (fun b=>b=x) x cells lists (fun _=>[])∧w.heap.size≤x∧aD w w':=by
 have nM:¬ (cells:Int)<1:=by omega
 have pT:¬ (1048576:Int)<(cells:Int):=by omega
 have xT:¬ (lists:Int)<1:=by omega
 have xQ:¬ (1048576:Int)<(lists:Int):=by omega
 go_enter Tryz.func95,Tryz.ntmps95
 go_wp2_with fail
 go_ret2
 have hb:=aL.new w 182 #[.int .i64 cells,.slice none 0 0,.int .i64 lists,.slice none 0 0]
 exact ⟨_,rfl,⟨⟨none,0,none,0,[],[],⟨hb,aJ.nil _ _ _ _,aJ.nil _ _ _ _,rfl⟩,lU.empty _ _⟩,fun b vS=>by subst vS;exact hb.lt,h2,by omega⟩,Nat.le_refl _,aD.alloc _ _⟩
set_option maxRecDepth 100000 in
theorem Lg {w:World} {B:Nat→Prop} {x cells lists:Nat} {cont:Nat→List Nat} (h:rU w B x cells lists cont) {n c:Nat} (hc:c∈cont n) :
 Calls Tryz.prog 106 #[.pointer (some ⟨x,0,none⟩),.int .i64 c] w fun e w'=>e=.returned (.tuple #[.int .i64 (oi (dQ (cont n) c)),.int .i64 0])∧w'=w:=by
 obtain ⟨LA,cA,LE,cE,at_,en,h1,h2⟩:=h.mem
 have HL:=aA (tL h1 (h2.lnk n c hc) (by simp only;omega) (Nat.lt_of_lt_of_le (h2.lt hc).1 h2.cl))
 obtain ⟨g,rfl,-,-,-,-,-,k2,-⟩:=h1.lnk (h2.lnk n c hc)
 replace k2:w.cell? ⟨g,c*3+2,none⟩=some (.int .i64 (oi (dQ (cont n) c))):=k2
 clear h h1 h2
 go_enter Tryz.func106,Tryz.ntmps106
 go_wp2_with ((with_reducible refine HL.out.mono ?_);rintro e w1 ⟨rfl,g0,kY,rfl⟩;obtain rfl:g=g0:=by injection kY with kY;injection kY)
 go_ret2
 exact ⟨rfl,rfl⟩
set_option maxRecDepth 100000 in
theorem V9 {w:World} {B:Nat→Prop} {x cells lists:Nat} {cont:Nat→List Nat} (h:rU w B x cells lists cont) {n:Nat} (hn:n<lists) :
 Calls Tryz.prog 152 #[.pointer (some ⟨x,0,none⟩),.int .i64 n] w fun e w'=>e=.returned (.tuple #[.int .i64 (cont n).length,.int .i64 0])∧qc w B x cells lists cont w':=by
 obtain ⟨LA,cA,LE,cE,at_,en,h1,h2⟩:=h.mem
 have HL:=aA (v6 h1 h.lt h2 hn h.lm)
 have Ve:=h.cm;have Ej:=h.lm
 clear h h1 h2
 go_enter Tryz.func152,Tryz.ntmps152
 go_wp2_with ((with_reducible refine HL.out.mono ?_);rintro e w1 ⟨g,cE',en',rfl,hG1,m7⟩;have wA:=aA hG1;obtain ⟨B1,m1,m2,m3⟩:=hG1.mem;obtain ⟨g2,eg,-,-,-,-,-,e2,-⟩:=m1.end_ (List.getElem?_eq_getElem m7);obtain rfl:g=g2:=(by injection eg with eg;injection eg);rw [hG1.ok.ends n _ (List.getElem?_eq_getElem m7)] at e2;clear hG1 m1 m2 m3 eg)
 go_ret2
 exact ⟨rfl,qc.of wA.out Ve Ej⟩
theorem Zh (w:World) (x:Nat):Calls Tryz.prog 100 #[.pointer (some ⟨x,0,none⟩),.int .i64 (-1)] w fun e w'=>e=.returned (.tuple #[.pointer none,.int .i64 41])∧w'=w:=by
 go_enter Tryz.func100,Tryz.ntmps100
 go_wp2_with fail
 go_ret2
 exact ⟨rfl,rfl⟩
set_option maxRecDepth 100000 in
theorem qj {w:World} {B:Nat→Prop} {x cells lists:Nat} {cont:Nat→List Nat} (h:rU w B x cells lists cont) {n:Nat} (hn:n<lists) :
 Calls Tryz.prog 105 #[.pointer (some ⟨x,0,none⟩),.int .i64 n] w fun e w'=>e=.returned (.tuple #[.int .i64 (oi (cont n).head?),.int .i64 (oi (cont n).getLast?),.int .i64 0])∧qc w B x cells lists cont w':=by
 obtain ⟨LA,cA,LE,cE,at_,en,h1,h2⟩:=h.mem
 have HL:=aA (v6 h1 h.lt h2 hn h.lm)
 have Ve:=h.cm;have Ej:=h.lm
 clear h h1 h2
 go_enter Tryz.func105,Tryz.ntmps105
 go_upto_region 4 with ((with_reducible refine HL.out.mono ?_);rintro e w1 ⟨g,cE',en',rfl,hG1,m7⟩;have wA:=aA hG1;obtain ⟨B1,m1,m2,m3⟩:=hG1.mem;obtain ⟨g2,eg,-,-,-,e0,e1,-,-⟩:=m1.end_ (List.getElem?_eq_getElem m7);obtain rfl:g=g2:=(by injection eg with eg;injection eg);rw [hG1.ok.ends n _ (List.getElem?_eq_getElem m7)] at e0 e1;clear hG1 m1 m2 m3 eg)
 have e0:=aB e0
 have e1:=aB e1
 refine aC 11 (by kernel_rfl) (by kernel_rfl) (by kernel_rfl) ?_
 iterate 11
  refine aK (by kernel_rfl) (by kernel_rfl) ?_
  apply Exists.intro
  refine ⟨fun w1 aT=>?_,fun K hK=>?_⟩
  ·go_simp;first | done | rfl
  go_simp;refine hK _ _ ?_;clear hK K
 refine aH ⟨rfl,by kernel_rfl,fun wq hwq=>?_⟩
 simp only [bL]
 refine wpList_nil ?_
 go_wp2_with fail
 go_ret3
 obtain ⟨B2,k1,k2,k3⟩:=qc.of wA.out Ve Ej
 exact ⟨rfl,B2,k1.ext hwq,k2,k3.trans' (aF.of hwq)⟩
end Go.Proofs.YtahdiiaadjdmcaaGreat
