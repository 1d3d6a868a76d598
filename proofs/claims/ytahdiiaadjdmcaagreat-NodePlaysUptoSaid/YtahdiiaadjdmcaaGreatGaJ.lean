import Derived.Test.YtahdiiaadjdmcaaGreatArnR
import Derived.Test.YtahdiiaadjdmcaaGreatGaB
import Derived.Test.YtahdiiaadjdmcaaGreatGaE
import Derived.Test.YtahdiiaadjdmcaaGreatGaG
import Derived.Test.YtahdiiaadjdmcaaGreatGaI
import Derived.Test.YtahdiiaadjdmcaaGreatCloneV
namespace Go.Proofs.YtahdiiaadjdmcaaGreat
open Go.RowKit
theorem bF.inB {w:World} {B:Nat→Prop} {K:Value} {k:List UInt8} (h:bF w B K k):∀ A n c,K=.slice A n c→∀ a,A=some a→B a.block:=by
 obtain ⟨A,n,c,rfl,_,h3⟩:=h
 rintro A' n' c' he a ha
 injection he with he
 subst he
 exact h3 a ha
theorem fO.far {w w':World} {B C:Nat→Prop} {x tb most size marks probes:Nat} {T:List Pl} {Ks:List Value} (h:fO w B x tb most size marks probes T Ks) (hc:aF C w w') (hd:∀ g,B g→¬ C g):fO w' B x tb most size marks probes T Ks:=
 ⟨hc.blk h.blk (hd _ h.inB),⟨hc.blk h.tab.blk (hd _ h.tab.inB),h.tab.len,fun i p K h1 h2=>(h.tab.keys i p K h1 h2).keep hc fun A n c e a ha=>hd _ ((h.tab.keys i p K h1 h2).inB A n c e a ha),h.tab.inB⟩,h.pow,h.inB⟩
theorem E9.far {w w':World} {B C:Nat→Prop} {x most probes:Nat} {E:List (List UInt8 × Int)} (h:E9 w B x most probes E) (hc:aF C w w') (hd:∀ g,B g→¬ C g):E9 w' B x most probes E:=by
 obtain ⟨tb,T,Ks,hI,hr⟩:=h.at_
 exact ⟨⟨tb,T,Ks,hI.far hc hd,hr⟩,h.most,fun b hb=>Nat.lt_of_lt_of_le (h.old b hb) hc.size⟩
theorem E9.mono {w:World} {B C:Nat→Prop} {x most probes:Nat} {E:List (List UInt8 × Int)} (h:E9 w B x most probes E) (hC:∀ g,B g→C g) (hl:∀ g,C g→g<w.heap.size):E9 w C x most probes E:=by
 obtain ⟨tb,T,Ks,h1,h2⟩:=h.at_
 exact ⟨⟨tb,T,Ks,⟨h1.blk,⟨h1.tab.blk,h1.tab.len,fun i p K h3 h4=>(h1.tab.keys i p K h3 h4).mono hC,hC _ h1.tab.inB⟩,h1.pow,hC _ h1.inB⟩,h2⟩,h.most,hl⟩
theorem rU.mono {w:World} {B C:Nat→Prop} {x cells lists:Nat} {cont:Nat→List Nat} (h:rU w B x cells lists cont) (hC:∀ g,B g→C g) (hl:∀ g,C g→g<w.heap.size):rU w C x cells lists cont:=by
 obtain ⟨LA,cA,LE,cE,at_,en,h1,h2⟩:=h.mem
 exact ⟨⟨LA,cA,LE,cE,at_,en,h1.mono hC,h2⟩,hl,h.cm,h.lm⟩
theorem qF.mono {w:World} {B C:Nat→Prop} {x most:Nat} {sl:List (fZ Value)} {free:List Nat} {live:Nat} (h:qF w B x most sl free live) (hC:∀ g,B g→C g) (hl:∀ g,C g→g<w.heap.size):qF w C x most sl free live:=by
 obtain ⟨SA,cS,FA,cF,h1⟩:=h.mem
 exact ⟨⟨SA,cS,FA,cF,h1.mono hC⟩,h.ok,hl,h.mm,h.gen⟩
theorem t0.mono {w:World} {B C:Nat→Prop} {x most:Nat} {sl:List (fZ Value)} {free:List Nat} {live:Nat} (h:t0 w B x most sl free live) (hC:∀ g,B g→C g) (hl:∀ g,C g→g<w.heap.size):t0 w C x most sl free live:=by
 obtain ⟨SA,cS,FA,cF,h1⟩:=h.mem
 exact ⟨⟨SA,cS,FA,cF,h1.mono hC⟩,h.ok,hl,h.mm,h.gen⟩
theorem lE.chg {w w':World} {C:Nat→Prop} {b n:Nat} {σ:iV} (h:lE w b n σ) (hw:aF C w w') (hb:¬ C b):lE w' b n σ:=h.block (hw.block b h.lt hb)
def pW (w:World) (B:Nat→Prop) (A:Option Addr) (n:Nat) (r:List V):Prop:=aW w A n r∧∀ a,A=some a→B a.block
theorem pW.mono {w:World} {B C:Nat→Prop} {A:Option Addr} {n:Nat} {r:List V} (h:pW w B A n r) (hC:∀ g,B g→C g):pW w C A n r:=⟨h.1,fun a ha=>hC _ (h.2 a ha)⟩
theorem Sl.chg {w w':World} {C:Nat→Prop} {A:Option Addr} {n size:Nat} {xs:List Value} (h:Sl w A n size xs) (hw:aF C w w') (hA:∀ a,A=some a→¬ C a.block):Sl w' A n size xs:=
 ⟨h.1,fun hn=>by
  obtain ⟨b,off,e,hc⟩:=h.2 hn
  exact ⟨b,off,e,fun j u hu=>hw.cell (hc j u hu) (show ¬ C b from hA _ e)⟩⟩
theorem pW.chg {w w':World} {B C:Nat→Prop} {A:Option Addr} {n:Nat} {r:List V} (h:pW w B A n r) (hw:aF C w w') (hC:∀ g,B g→¬ C g):pW w' B A n r:=
 ⟨⟨h.1.1,h.1.2.chg hw fun a ha=>hC _ (h.2 a ha)⟩,h.2⟩
def jX (w:World) (B:Nat→Prop) (A:Option Addr) (n:Nat) (xs:List Int):Prop:=cB w A n xs∧∀ a,A=some a→B a.block
theorem jX.mono {w:World} {B C:Nat→Prop} {A:Option Addr} {n:Nat} {r:List Int} (h:jX w B A n r) (hC:∀ g,B g→C g):jX w C A n r:=⟨h.1,fun a ha=>hC _ (h.2 a ha)⟩
theorem jX.chg {w w':World} {B C:Nat→Prop} {A:Option Addr} {n:Nat} {r:List Int} (h:jX w B A n r) (hw:aF C w w') (hC:∀ g,B g→¬ C g):jX w' B A n r:=
 ⟨⟨h.1.1,h.1.2.chg hw fun a ha=>hC _ (h.2 a ha)⟩,h.2⟩
def lJ (w:World) (B:Nat→Prop) (A:Option Addr) (n:Nat) (gs:List (List Nat)):Prop:=
 n=gs.length∧(∀ a,A=some a→B a.block)∧∃ vs:List Value,Sl w A n 1 vs∧∀ (k:Nat) (g:List Nat),gs[k]?=some g→∃ Ak ck,vs[k]?=some (.slice Ak g.length ck)∧jX w B Ak g.length (g.map Int.ofNat)
theorem lJ.mono {w:World} {B C:Nat→Prop} {A:Option Addr} {n:Nat} {gs:List (List Nat)} (h:lJ w B A n gs) (hC:∀ g,B g→C g):lJ w C A n gs:=by
 obtain ⟨h1,h2,vs,h3,h4⟩:=h
 refine ⟨h1,fun a ha=>hC _ (h2 a ha),vs,h3,fun k g hg=>?_⟩
 obtain ⟨Ak,ck,h5,h6⟩:=h4 k g hg
 exact ⟨Ak,ck,h5,h6.mono hC⟩
theorem lJ.chg {w w':World} {B C:Nat→Prop} {A:Option Addr} {n:Nat} {gs:List (List Nat)} (h:lJ w B A n gs) (hw:aF C w w') (hC:∀ g,B g→¬ C g):lJ w' B A n gs:=by
 obtain ⟨h1,h2,vs,h3,h4⟩:=h
 refine ⟨h1,h2,vs,h3.chg hw fun a ha=>hC _ (h2 a ha),fun k g hg=>?_⟩
 obtain ⟨Ak,ck,h5,h6⟩:=h4 k g hg
 exact ⟨Ak,ck,h5,h6.chg hw hC⟩
inductive mY where
 | put (r:List V) (A:Option Addr) (n c:Nat)
 | drop (r:List V) (A:Option Addr) (n c:Nat) (ah:List Int) (H:Option Addr) (m d:Nat)
def oM (w:World) (B:Nat→Prop) (x:Nat) (u:Value):mY→Prop
 | .put r A n c=>∃ sb kb,u=.func (.func 140) #[] #[.pointer (some ⟨sb,0,none⟩),.pointer (some ⟨kb,0,none⟩)]∧aL w sb 88 #[.pointer (some ⟨x,0,none⟩)]∧B sb∧aL w kb 28 #[.slice A n c]∧B kb∧pW w B A n r
 | .drop r A n c ah H m d=>∃ sb kb hb,u=.func (.func 138) #[] #[.pointer (some ⟨sb,0,none⟩),.pointer (some ⟨kb,0,none⟩),.pointer (some ⟨hb,0,none⟩)]∧aL w sb 88 #[.pointer (some ⟨x,0,none⟩)]∧B sb∧aL w kb 28 #[.slice A n c]∧B kb∧pW w B A n r∧aL w hb 23 #[.slice H m d]∧B hb∧jX w B H m ah
theorem oM.mono {w:World} {B C:Nat→Prop} {x:Nat} {u:Value} (hC:∀ g,B g→C g):∀ {z:mY},oM w B x u z→oM w C x u z
 | .put _ _ _ _,⟨sb,kb,h1,h2,h3,h4,h5,h6⟩=>⟨sb,kb,h1,h2,hC _ h3,h4,hC _ h5,h6.mono hC⟩
 | .drop _ _ _ _ _ _ _ _,⟨sb,kb,hb,h1,h2,h3,h4,h5,h6,h7,h8,h9⟩=>⟨sb,kb,hb,h1,h2,hC _ h3,h4,hC _ h5,h6.mono hC,h7,hC _ h8,h9.mono hC⟩
theorem oM.chg {w w':World} {B C:Nat→Prop} {x:Nat} {u:Value} (hw:aF C w w') (hC:∀ g,B g→¬ C g):∀ {z:mY},oM w B x u z→oM w' B x u z
 | .put _ _ _ _,⟨sb,kb,h1,h2,h3,h4,h5,h6⟩=>⟨sb,kb,h1,hw.blk h2 (hC _ h3),h3,hw.blk h4 (hC _ h5),h5,h6.chg hw hC⟩
 | .drop _ _ _ _ _ _ _ _,⟨sb,kb,hb,h1,h2,h3,h4,h5,h6,h7,h8,h9⟩=>⟨sb,kb,hb,h1,hw.blk h2 (hC _ h3),h3,hw.blk h4 (hC _ h5),h5,h6.chg hw hC,hw.blk h7 (hC _ h8),h8,h9.chg hw hC⟩
abbrev m8:Type:=List (List UInt8 × Int)
structure bI where
 x:Nat
 width:Nat
 most:Nat
 gs:List (List Nat)
 GA:Option Addr
 cG:Nat
 xs:Nat
 sl:List (fZ Value)
 fr:List Nat
 lv:Nat
 rm:Nat
 refs:iV
 xw:Nat
 E:m8
 gA:Option Addr
 gC:Nat
 gx:List Nat
 G:Nat→m8
 xl:Nat
 sL:List (fZ Value)
 fL:List Nat
 lL:Nat
 lm:Nat
 lrefs:iV
 xo:Nat
 cont:Nat→List Nat
 marked:Bool
 uA:Option Addr
 uC:Nat
 un:List Value
 P:List (Nat × List V)
 U:List mY
 K:Nat
def bI.L (v:bI):Nat:=v.gs.length+1
def lF (l:List Nat):List Value:=l.map fun x=>.pointer (some ⟨x,0,none⟩)
def bI.cells (v:bI):Array Value:=#[.int .i64 v.width,.int .i64 v.most,.int .i64 v.L,.slice v.GA v.gs.length v.cG,.pointer (some ⟨v.xs,0,none⟩),.map (some v.rm),.pointer (some ⟨v.xw,0,none⟩),.slice v.gA v.gx.length v.gC,.pointer (some ⟨v.xl,0,none⟩),.map (some v.lm),.pointer (some ⟨v.xo,0,none⟩),.bool v.marked,.slice v.uA v.un.length v.uC]
def part (w:World) (B:Nat→Prop) (v:bI):Nat→Prop
 | 0=>aL w v.x 131 v.cells∧B v.x∧aJ w B 125 1 v.gx.length (.slice v.gA v.gx.length v.gC) (lF v.gx)∧aJ w B 1 1 v.un.length (.slice v.uA v.un.length v.uC) v.un
 | 1=>lJ w B v.GA v.gs.length v.gs
 | 2=>qF w B v.xs v.most v.sl v.fr v.lv
 | 3=>B v.rm∧∃ n,n≤v.K∧lE w v.rm n v.refs
 | 4=>∃ p,p≤v.K∧E9 w B v.xw v.most p v.E
 | 5=>t0 w B v.xl (v.most*v.L) v.sL v.fL v.lL
 | 6=>B v.lm∧∃ n,n≤v.K∧lE w v.lm n v.lrefs
 | 7=>rU w B v.xo (v.most*v.L) (v.most*v.L+1) v.cont
 | 8=>(∀ i r,(i,r)∈v.P→∃ A n c,oV v.sl i=some (.slice A n c)∧pW w B A n r)∧v.U.length=v.un.length∧∀ (i:Nat) (u:Value) (z:mY),v.un[i]?=some u→v.U[i]?=some z→oM w B v.x u z
 | 9=>v.gx.length=v.gs.length
 | k+10=>∀ xk,v.gx[k]?=some xk→∃ p,p≤v.K∧E9 w B xk v.most p (v.G k)
theorem kN {w w':World} {B C:Nat→Prop} {v:bI} (hw:aF C w w') (hC:∀ g,B g→¬ C g):∀ i,part w B v i→part w' B v i
 | 0,h=>⟨hw.blk h.1 (hC _ h.2.1),h.2.1,h.2.2.1.chg hw hC,h.2.2.2.chg hw hC⟩
 | 1,h=>lJ.chg h hw hC
 | 2,h=>qF.chg h hw hC
 | 3,⟨h1,n,h2,h3⟩=>⟨h1,n,h2,h3.chg hw (hC _ h1)⟩
 | 4,⟨p,h1,h2⟩=>⟨p,h1,h2.far hw hC⟩
 | 5,h=>t0.chg h hw hC
 | 6,⟨h1,n,h2,h3⟩=>⟨h1,n,h2,h3.chg hw (hC _ h1)⟩
 | 7,h=>rU.chg h hw hC
 |8,⟨h,h9,h8⟩=>⟨fun i r hi=>by
  obtain ⟨A,n,c,h1,h2⟩:=h i r hi
  exact ⟨A,n,c,h1,h2.chg hw hC⟩,h9,fun i u z h1 h2=>(h8 i u z h1 h2).chg hw hC⟩
 | 9,h=>h
 |_+10,h=>fun xk hk=>by
  obtain ⟨p,h1,h2⟩:=h xk hk
  exact ⟨p,h1,h2.far hw hC⟩
theorem kE {w:World} {B C:Nat→Prop} {v:bI} (hC:∀ g,B g→C g) (hl:∀ g,C g→g<w.heap.size):∀ i,part w B v i→part w C v i
 | 0,h=>⟨h.1,hC _ h.2.1,h.2.2.1.mono hC,h.2.2.2.mono hC⟩
 | 1,h=>lJ.mono h hC
 | 2,h=>qF.mono h hC hl
 | 3,⟨h1,h2⟩=>⟨hC _ h1,h2⟩
 | 4,⟨p,h1,h2⟩=>⟨p,h1,h2.mono hC hl⟩
 | 5,h=>t0.mono h hC hl
 | 6,⟨h1,h2⟩=>⟨hC _ h1,h2⟩
 | 7,h=>rU.mono h hC hl
 |8,⟨h,h9,h8⟩=>⟨fun i r hi=>by
  obtain ⟨A,n,c,h1,h2⟩:=h i r hi
  exact ⟨A,n,c,h1,h2.mono hC⟩,h9,fun i u z h1 h2=>(h8 i u z h1 h2).mono hC⟩
 | 9,h=>h
 |_+10,h=>fun xk hk=>by
  obtain ⟨p,h1,h2⟩:=h xk hk
  exact ⟨p,h1,h2.mono hC hl⟩
abbrev aP:Type:=Nat→Option Nat
def aP.own (lab:aP) (i:Nat):Nat→Prop:=fun b=>lab b=some i
def aP.dom (lab:aP):Nat→Prop:=fun b=>∃ i,lab b=some i
open Classical in
noncomputable def aP.grow (lab:aP) (n j:Nat) (B:Nat→Prop):aP:=fun b=>if b<n then lab b else if B b then some j else none
structure cW (w:World) (lab:aP) (v:bI):Prop where
 lt:∀ b i,lab b=some i→b<w.heap.size
 part:∀ i,part w (lab.own i) v i
theorem cW.chg {w w':World} {C:Nat→Prop} {lab:aP} {v:bI} (h:cW w lab v) (hw:aF C w w') (hC:∀ g,lab.dom g→¬ C g):cW w' lab v:=
 ⟨fun b i hb=>Nat.lt_of_lt_of_le (h.lt b i hb) hw.size,fun i=>kN hw (fun g hg=>hC g ⟨i,hg⟩) i (h.part i)⟩
theorem cW.ext {w w':World} {lab:aP} {v:bI} (h:cW w lab v) (hw:aD w w'):cW w' lab v:=h.chg (C:=fun _=>False) (aF.of hw) fun _ _ x=>x
def fK (w:World) (lab:aP) (w':World) (v':bI):Prop:=∃ lab',cW w' lab' v'∧(∀ b,lab'.dom b→lab.dom b∨w.heap.size≤b)∧aF lab.dom w w'
theorem fK.trans {w w1 w2:World} {lab lab1:aP} {v2:bI} (h:fK w1 lab1 w2 v2) (hs:∀ b,lab1.dom b→lab.dom b∨w.heap.size≤b) (hc:aF lab.dom w w1):fK w lab w2 v2:=by
 obtain ⟨lab2,h1,h2,h3⟩:=h
 refine ⟨lab2,h1,fun b hb=>?_,hc.trans h3 fun g hg hl=>(hs g hg).resolve_right (by omega)⟩
 rcases h2 b hb with h4 | h4
 ·exact hs b h4
 ·exact .inr (Nat.le_trans hc.size h4)
theorem cW.chg1 {w w':World} {lab:aP} {v v':bI} (h:cW w lab v) (j:Nat) {B':Nat→Prop} (hB:∀ b,B' b→lab.own j b∨w.heap.size≤b) (hl:∀ b,B' b→b<w'.heap.size) (hC:aF (lab.own j) w w')
 (hs:∀ i,i≠j→Proofs.YtahdiiaadjdmcaaGreat.part w' (lab.own i) v i→Proofs.YtahdiiaadjdmcaaGreat.part w' (lab.own i) v' i) (hp:Proofs.YtahdiiaadjdmcaaGreat.part w' B' v' j):fK w lab w' v':=by
 have bC:∀ b i,lab.grow w.heap.size j B' b=some i→b<w'.heap.size:=fun b i hb=>by
  unfold aP.grow at hb
  split at hb
  ·have:=hC.size;omega
  ·split at hb
   ·exact hl b (by assumption)
   ·cases hb
 refine ⟨lab.grow w.heap.size j B',⟨bC,fun i=>?_⟩,fun b hb=>?_,hC.mono fun g hg _=>⟨j,hg⟩⟩
 ·by_cases hi:i=j
  ·subst hi
   refine kE (fun b hb=>?_) (fun b hb=>bC b _ hb) i hp
   show lab.grow w.heap.size i B' b=some i
   unfold aP.grow
   rcases hB b hb with h1 | h1
   ·rw [if_pos (h.lt b _ h1)];exact h1
   ·rw [if_neg (by omega),if_pos hb]
  ·have e:(lab.grow w.heap.size j B').own i=lab.own i:=by
    funext b
    unfold aP.own aP.grow
    apply propext
    split
    ·exact Iff.rfl
    ·split
     ·constructor
      ·intro h1;injection h1 with h1;exact absurd h1.symm hi
      ·intro h1;have:=h.lt b _ h1;omega
     ·constructor
      ·intro h1;cases h1
      ·intro h1;have:=h.lt b _ h1;omega
   rw [e]
   exact hs i hi (kN hC (fun g hg Mf=>hi (by
    have h1:some i=some j:=hg.symm.trans Mf
    injection h1)) i (h.part i))
 ·obtain ⟨i,hi⟩:=hb
  unfold aP.grow at hi
  split at hi
  ·exact .inl ⟨i,hi⟩
  ·right;omega
end Go.Proofs.YtahdiiaadjdmcaaGreat
namespace Go.Proofs.YtahdiiaadjdmcaaGreat
open Go.RowKit
def V1 (a:Act) (o:Oper):Option Value:=
 match o.op with
 | .move x=>some (a.eval x)
 | .assign x=>some (a.eval x)
 |.extract t i=>match a.eval t with
  | .tuple vs=>vs[i]?
  | _=>none
 | _=>none
def zap (Q:Exit→Act→World→Prop):List Oper→Act→World→Prop
 | [],a,w=>Q .normal a w
 | o :: l,a,w=>∃ v,V1 a o=some v∧zap Q l (a.put o.dst v) w
def zcp (Q:Exit→Act→World→Prop) (l:List Oper):Exit→Act→World→Prop
 | .normal,a,w=>zap Q l a w
 | .panic c,a,w=>Q (.panic c) a w
 | e,a,w=>Q e a w
def Qv (md:Region.Mode) (ops:Array Oper) (n:Nat):Bool:=(List.range ops.size).all fun t=>decide (t≤n) || (List.range t).any fun j=>decide (n≤j) && Region.waitsFor md ops t j
def mL (md:Region.Mode) (ops:Array Oper) (E:Array Bool→Bool):Nat→Nat→Array Bool→Bool
 | 0,_,listed=>E listed
 | f+1,k,listed=>(Region.ready md ops listed).contains k && Region.free md ops listed k && mL md ops E f (k+1) (listed.setIfInBounds k true)
def qR (md:Region.Mode) (ops:Array Oper):Nat→Nat→Array Bool→Bool
 | 0,_,listed=>(Region.ready md ops listed).isEmpty
 | f+1,k,listed=>(Region.ready md ops listed).contains k && Region.free md ops listed k && qR md ops f (k+1) (listed.setIfInBounds k true)
def ι (md:Region.Mode) (ops:Array Oper) (n:Nat) (listed:Array Bool):Bool:=decide (Region.ready md ops listed=[n]) && qR md ops (ops.size - (n+1)) (n+1) (listed.setIfInBounds n true)
def zdm (ops:Array Oper) (n:Nat):Bool:=
 decide (n<ops.size) && Region.sinkB .any ops n && Qv .any ops n && Region.noSelect ops && (ops.all fun o=>o.guard.isNone) && mL .any ops (ι .any ops n) n 0 (Array.replicate ops.size false)
section
variable {md:Region.Mode} {ops:Array Oper}
theorem Lk {n:Nat} {listed:Array Bool} (hs:Region.sinkB md ops n=true) (hc:Qv md ops n=true) (hn:n<ops.size) (inv:HeadInv md ops n listed) :
 ∀ (d i:Nat),n - i=d→i<n→listed.getD i true=false→∀ t,n≤t→t∉Region.ready md ops listed:=by
 intro d
 induction d using Nat.strongRecOn with
 |_ d ih=>
  intro i hd hi o6 t ht hr
  obtain ⟨_,ot,hot,gH⟩:=mem_ready.1 hr
  have Gq:t<ops.size:=(Array.getElem?_eq_some_iff.1 hot).1
  by_cases htn:t=n
  ·subst htn
   have h1:=List.all_eq_true.1 hs i (List.mem_range.2 hi)
   obtain ⟨j,hj,Fz⟩:=List.any_eq_true.1 h1
   simp only [Bool.and_eq_true,decide_eq_true_eq] at Fz
   obtain ⟨oj,hoj,e,he,hb,hon⟩:=Region.waitsFor_spec Fz.2
   have zek:j≤t:=by have:=List.mem_range.1 hj;omega
   by_cases hjt:j=t
   ·subst hjt
    have:oj=ot:=Option.some.inj (hoj.symm.trans hot)
    subst this
    have h2:=gH e he hb
    rw [hon,getD_both o6] at h2
    cases h2
   ·cases hl:listed.getD j false with
    |true=>
     have h2:=inv.closed j oj hoj hl e he hb
     rw [hon,getD_both o6] at h2
     cases h2
    |false=>
     have zdr:j<listed.size:=by rw [inv.size];omega
     exact ih (t - j) (by omega) j rfl (by omega) (getD_in zdr hl) t (Nat.le_refl _) hr
  ·have h1:=List.all_eq_true.1 hc t (List.mem_range.2 Gq)
   simp only [Bool.or_eq_true,decide_eq_true_eq] at h1
   rcases h1 with h1 | h1
   ·omega
   ·obtain ⟨j,hj,Fz⟩:=List.any_eq_true.1 h1
    simp only [Bool.and_eq_true,decide_eq_true_eq] at Fz
    obtain ⟨o',ho',e,he,hb,hon⟩:=Region.waitsFor_spec Fz.2
    have:o'=ot:=Option.some.inj (ho'.symm.trans hot)
    subst this
    have h2:=gH e he hb
    rw [hon,getD_both (inv.tail j Fz.1 (by have:=List.mem_range.1 hj;omega))] at h2
    cases h2
end
section
variable {P:Program} {ops:Array Oper} {md:Region.Mode} {w0:World} {n:Nat} {ds:List Deferred} {Q:Exit→Act→World→Prop}
theorem Cx {o:Oper} {a:Act} {v:Value} (hg:o.guard.isNone=true) (h:V1 a o=some v):Yields P ops o v a:=by
 have hg':o.guard=none:=by cases h1:o.guard with | none=>rfl | some _=>rw [h1] at hg;cases hg
 refine .inl ⟨by simp [Region.wanted,hg'],fun w=>?_⟩
 unfold V1 at h
 cases ho:o.op <;> rw [ho] at h <;> simp only [reduceCtorEq,Option.some.injEq] at h
 case move x=>subst h;simp [execOp,ho]
 case assign x=>subst h;simp [execOp,ho]
 case extract t i=>
  cases hv:a.eval t <;> rw [hv] at h <;> simp only [reduceCtorEq] at h
  case tuple vs=>simp [execOp,ho,hv,Instr.extract,h]
theorem Bp (hQ:∀ c (d:Tmp) v (a:Act) w,Q (.panic c) (a.put (some d) v) w→Q (.panic c) a w) (hns:Region.noSelect ops=true) (nK:(ops.all fun o=>o.guard.isNone)=true) :
 ∀ (l:List Oper) (k:Nat) (listed:Array Bool) (a:Act) (w:World),(∀ j,l[j]?=ops[k+j]?)→qR md ops l.length k listed=true→zap Q l a w→wpAny P md ops Q l.length listed a w
 | [],_,_,_,_,_,hB,h=>⟨by simpa [qR] using hB,h⟩
 |o :: l,k,listed,a,w,hl,hB,⟨v,hv,h⟩=>by
  have h0:ops[k]?=some o:=by simpa using (hl 0).symm
  simp only [List.length_cons,qR,Bool.and_eq_true] at hB
  obtain ⟨⟨hr,hf⟩,hB'⟩:=hB
  have hg:o.guard.isNone=true:=by
   have:=Array.all_eq_true_iff_forall_mem.1 nK o (Array.mem_of_getElem? h0)
   exact this
  exact wpAny_take h0 hns hf hr (fun c a w=>by cases o.dst with | none=>exact id | some d=>exact hQ c d v a w) (Cx hg hv) (Bp hQ hns nK l (k+1) _ _ w (fun j=>by have:=hl (j+1);simpa [Nat.add_assoc,Nat.add_comm 1 j] using this) hB' h)
theorem xS {E:Array Bool→Bool} {Lq:(Tmp→AV)→Prop} (hE:∀ listed,E listed=true→∀ j∈Region.ready md ops listed,n≤j) (hT:∀ i,i<n→∀ listed,HeadInv md ops n listed→listed.getD i true=false→∀ t,n≤t→t∉Region.ready md ops listed) :
 ∀ (l:List Oper) (k:Nat) (listed:Array Bool) (S:Tmp→AV),(∀ j,j<l.length→l[j]?=ops[k+j]?)→k+l.length=n→HeadInv md ops n listed→
 mL md ops E l.length k listed=true→qB P ops w0 Lq l S→
 pR P md ops w0 n (fun listed' S'=>E listed'=true∧Lq S') l.length listed S
 | [],k,listed,S,_,hk,_,hB,h=>⟨hB,h⟩
 |o :: l,k,listed,S,hl,hk,inv,hB,h=>by
  have h0:ops[k]?=some o:=by simpa using (hl 0 (by simp)).symm
  simp only [List.length_cons,mL,Bool.and_eq_true] at hB
  obtain ⟨⟨hr,hf⟩,hB'⟩:=hB
  have Ko:k<n:=by simp only [List.length_cons] at hk;omega
  have hr':k∈Region.ready md ops listed:=by simpa using hr
  obtain ⟨x,hy,hK⟩:=h
  exact mA h0 Ko (hT k Ko) (fun listed' S' hL=>hE _ hL.1) l.length listed S inv (Region.free_spec h0 hf) hr' hy
   (xS hE hT l (k+1) _ _ (fun j hj=>by have:=hl (j+1) (by simp;omega);simpa [Nat.add_assoc,Nat.add_comm 1 j] using this) (by simp only [List.length_cons] at hk;omega) (inv.set hr' Ko) hB' hK)
theorem S_ {o:Oper} {a:Act} {w:World} {l:List Oper} (h:wpList P ops (zcp Q l) [o] a w) {i:Nat} (hi:ops[i]?=some o):wpOp P ops Q i (zap Q l) a w:=by
 unfold wpOp
 simp only [hi]
 unfold wpList at h
 split
 ·rename_i hw
  rw [if_pos hw] at h
  exact h
 ·rename_i hw
  rw [if_neg hw] at h
  exact h
theorem mM {id:Nat} {a:Act} {w:World} {l:List Oper} (n:Nat) (hm:P.follows .mixedOrders=true) (hB:zdm l.toArray n=true) (hd:n6 l.toArray a.tmps.size=true) (hQ:∀ c (d:Tmp) v (a:Act) w,Q (.panic c) (a.put (some d) v) w→Q (.panic c) a w)
 (h:So P l.toArray w (fun a1 F=>iB F=true∧(F.all fun x=>x.1<a.tmps.size)=true∧∀ w',aD w w'→bL w' F (fun a'=>wpList P l.toArray (zcp Q (l.drop (n+1))) ((l.drop n).take 1) a' w') a1) (l.take n) a []):(Code.region id l.toArray true).wp P Q a w:=by
 simp only [zdm,Bool.and_eq_true,decide_eq_true_eq] at hB
 obtain ⟨⟨⟨⟨⟨hn,hsk⟩,xN⟩,hns⟩,nK⟩,hlex⟩:=hB
 have lP:n<l.length:=by simpa using hn
 have sB:(l.take n).length=n:=by simp;omega
 have inv0:HeadInv .any l.toArray n (Array.replicate l.toArray.size false):=
  ⟨by simp,fun j oj _ hl=>(by rw [getD_replicate_false] at hl;cases hl),fun t _ ht=>getD_in (by simpa using ht) (getD_replicate_false _ _)⟩
 have hT:∀ i,i<n→∀ listed,HeadInv .any l.toArray n listed→listed.getD i true=false→∀ t,n≤t→t∉Region.ready .any l.toArray listed:=
  fun i hi listed inv o6 t ht=>Lk hsk xN hn inv _ i rfl hi o6 t ht
 have rA:qB P l.toArray w (fun S=>∀ a' w',aD w w'→tD S a.tmps.size a.defers a' w'→wpList P l.toArray (zcp Q (l.drop (n+1))) ((l.drop n).take 1) a' w') (l.take n) (fG a []):=
  fV (ds:=a.defers) (m:=a.tmps.size) (fun a1 F gG Rl hq a' w' hw' hf=>by
   obtain ⟨hB1,hz,hq⟩:=hq
   refine kH (a':=a') F hB1 (hq w' hw') (hf.1.trans gG.symm) (hf.2.1.trans Rl.symm) (by rw [gG];exact hz) (fun t G hG=>?_) (fun t hn=>?_)
   ·have bC:t<a.tmps.size:=by
     have:=hz
     simp only [bV.get,Option.map_eq_some_iff] at hG
     obtain ⟨x,hx,_⟩:=hG
     have h1:=List.find?_some hx
     have h2:=List.all_eq_true.1 hz x (List.mem_of_find?_eq_some hx)
     simp at h1 h2
     rw [← h1];exact h2
    have:=hf.2.2 t bC
    rw [gV hG] at this
    exact this
   ·by_cases bC:t<a.tmps.size
    ·have:=hf.2.2 t bC
     rw [bN hn] at this
     exact this
    ·have h1:a'.tmps.size≤t:=by rw [hf.1];exact Nat.le_of_not_lt bC
     have h2:a1.tmps.size≤t:=by rw [gG];exact Nat.le_of_not_lt bC
     simp [h1,h2]) _ a [] rfl rfl h
 have hE:∀ listed,ι .any l.toArray n listed=true→∀ j∈Region.ready .any l.toArray listed,n≤j:=fun listed h1 j hj=>by
  simp only [ι,Bool.and_eq_true,decide_eq_true_eq] at h1
  rw [h1.1] at hj
  have:j=n:=by simpa using hj
  omega
 have H:=xS (md:=.any) hE hT (l.take n) 0 _ (fG a []) (fun j hj=>by
  have hj':j<n:=by rw [sB] at hj;exact hj
  simp [hj']) (by simpa using sB) inv0 (by rw [sB];exact hlex) rA
 refine wp_region_any hm ?_
 have aT:aD w {w with drawn:=w.drawn+1}:=aD.drew w
 obtain ⟨o,ho⟩ : ∃ o,l[n]?=some o:=⟨_,List.getElem?_eq_getElem lP⟩
 have zcQ:(l.drop n).take 1=[o]:=by
  rw [List.drop_eq_getElem_cons lP]
  rw [List.getElem?_eq_getElem lP] at ho
  simp at ho
  simp [ho]
 have:=fU (w0:=w) (ds:=a.defers) (Q':=Q) (g:=l.toArray.size - (n+1)+1) hd (fun listed S hL a' w' hw' hf=>by
  have h1:=hL.1
  simp only [ι,Bool.and_eq_true,decide_eq_true_eq] at h1
  have h2:=hL.2 a' w' hw' hf
  rw [zcQ] at h2
  refine ⟨fun h3=>(by rw [h1.1] at h3;cases h3),fun i hi=>?_⟩
  rw [h1.1] at hi
  have bE:i=n:=by simpa using hi
  subst bE
  have h4:=S_ (i:=i) h2 (by simpa using ho)
  refine wpOp_mono (fun a2 w2 h5=>?_) h4
  have h6:=Bp (P:=P) (md:=.any) (ops:=l.toArray) hQ hns nK (l.drop (i+1)) (i+1) (listed.setIfInBounds i true) a2 w2 (fun j=>by simp [List.getElem?_drop]) (by simpa using h1.2) h5
  simpa using h6) _ _ (fG a []) (fun t=>by rw [bN (by rfl)];exact AV.stable_k _ _) H a _ aT ⟨rfl,rfl,fun t _=>by rw [bN (by rfl)];rfl⟩
 rw [sB,show n+(l.toArray.size - (n+1)+1)=l.toArray.size by omega] at this
 exact this
end
end Go.Proofs.YtahdiiaadjdmcaaGreat
namespace Go.Proofs.YtahdiiaadjdmcaaGreat
open Go.RowKit
theorem dS {w:World} {b b':Nat} {e:TypeId} {s n:Nat} {v:Value} {xs:List Value} (h:w.ownsRow b' e s v n xs) (hb:b≤b'):w.ownsRow b e s v n xs:=by
 refine ⟨h.1,?_⟩
 rcases h.2 with h1 | ⟨g,cap,cur,h1,h2,h3⟩
 ·exact .inl h1
 ·exact .inr ⟨g,cap,cur,h1,Nat.le_trans hb h2,h3⟩
theorem kz {w:World} {base:Nat} {A:Option Addr} {n c:Nat} {k:List UInt8} (h:w.ownsRow base 5 1 (.slice A n c) n (Gx k)):bF w (fun b=>base≤b) (.slice A n c) k:=by
 refine ⟨A,n,c,rfl,dS h (Nat.zero_le _),fun a ha=>?_⟩
 rcases h.2 with ⟨h1,_⟩ | ⟨g,cap,cur,h1,h2,_⟩
 ·injection h1 with h1;rw [h1] at ha;cases ha
 ·injection h1 with h1
  rw [h1] at ha
  injection ha with ha
  subst ha
  exact h2
theorem bF.at_ {w:World} {B:Nat→Prop} {K:Value} {k:List UInt8} (h:bF w B K k):∃ A n c,K=.slice A n c∧eK w A n k∧∀ a,A=some a→B a.block:=by
 obtain ⟨A,n,c,rfl,h2,h3⟩:=h
 refine ⟨A,n,c,rfl,?_,h3⟩
 rcases h2.2 with ⟨h4,h5⟩ | ⟨g,cap,cur,h4,-,h6,h7,h8,h9,yQ⟩
 ·have:=h2.1
  injection h4 with h4
  subst h4;subst h5
  have hk:k=[]:=by cases k with
   | nil=>rfl
   | cons a l=>simp [Gx] at this
  subst hk
  exact Sl.nil _ _ _
 ·injection h4 with h4
  subst h4
  refine ⟨by have:=h2.1;omega,fun hn=>⟨g,0,rfl,fun j u hu=>?_⟩⟩
  have hb:aL w g 5 cur:=h6
  rw [Nat.zero_add,hb.cell]
  rw [← yQ,List.getElem?_take] at hu
  split at hu
  ·simpa using hu
  ·cases hu
def pk (r:List V):List UInt8:=(iQ r).1
def aV (width:Nat) (r:List V):Bool:=decide (r.length=width) && cQ r
structure bD (w:World) (A:Option Addr) (n:Nat) (r:List V):Prop where
 at_:aW w A n r
 len:n≤1048576
 small:dP r
 wf:uH r
theorem bD.ext {w w':World} {A:Option Addr} {n:Nat} {r:List V} (h:bD w A n r) (hw:aD w w'):bD w' A n r:=⟨h.at_.ext hw,h.len,h.small,h.wf⟩
theorem cW.str {w:World} {lab:aP} {v:bI} (h:cW w lab v):aL w v.x 131 v.cells:=(h.part 0).1
set_option maxRecDepth 100000 in
theorem zZ {w:World} {lab:aP} {v:bI} (h:cW w lab v) {r:List V} {A:Option Addr} {n:Nat} (c:Nat) (ha:bD w A n r) :
 Calls Tryz.prog 84 #[.pointer (some ⟨v.x,0,none⟩),.slice A n c] w fun e w'=>e=.returned (.bool (aV v.width r))∧aD w w':=by
 have HV:=aA (rX r A n c w ha.at_ ha.len ha.small)
 have hl:=ha.at_.len
 have a0:w.cell? ⟨v.x,0,none⟩=some (.int .i64 v.width):=h.str.cell 0
 clear h ha
 unfold aV
 generalize v.x=x at *
 generalize v.width=wd at *
 subst hl
 go_enter Tryz.func84,Tryz.ntmps84
 by_cases hw:r.length=wd
 ·subst hw
  go_wp2_with ((with_reducible refine HV.out.mono ?_);rintro e w1 ⟨rfl,h1⟩;have X1:=aA h1;clear h1)
  go_ret
  exact ⟨by simp,X1.out⟩
 ·have uP:¬ (r.length:Int)=(wd:Int):=by omega
  go_wp2_with fail
  go_ret
  exact ⟨by simp [hw],aD.refl _⟩
set_option maxRecDepth 100000 in
theorem oX {w:World} {r:List V} {A:Option Addr} {n:Nat} (c:Nat) (ha:bD w A n r) :
 Calls Tryz.prog 86 #[.slice A n c] w fun e w'=>∃ K,e=.returned K∧bF w' (fun b=>w.heap.size≤b) K (pk r)∧aD w w':=by
 have HV:=aA (Ab r A n c w ha.at_ ha.len ha.small ha.wf)
 clear ha
 go_enter Tryz.func86,Tryz.ntmps86
 go_wp2_with ((with_reducible refine HV.out.mono ?_);rintro e w1 ⟨A1,c1,rfl,h1,h2⟩;have X1:=aA h1;have X2:=aA h2;clear h1 h2)
 go_ret
 exact ⟨_,rfl,kz X1.out,X2.out⟩
def bI.tick (v:bI) (k:Nat):bI:={v with K:=v.K+k}
theorem aG {w:World} {B:Nat→Prop} {v:bI} (k:Nat):∀ i,part w B v i→part w B (v.tick k) i
 | 0,h=>h
 | 1,h=>h
 | 2,h=>h
 | 3,⟨h1,n,h2,h3⟩=>⟨h1,n,Nat.le_trans h2 (Nat.le_add_right _ _),h3⟩
 | 4,⟨p,h1,h2⟩=>⟨p,Nat.le_trans h1 (Nat.le_add_right _ _),h2⟩
 | 5,h=>h
 | 6,⟨h1,n,h2,h3⟩=>⟨h1,n,Nat.le_trans h2 (Nat.le_add_right _ _),h3⟩
 | 7,h=>h
 | 8,h=>h
 | 9,h=>h
 |_+10,h=>fun xk hk=>by
  obtain ⟨p,h1,h2⟩:=h xk hk
  exact ⟨p,Nat.le_trans h1 (Nat.le_add_right _ _),h2⟩
theorem cW.tick {w:World} {lab:aP} {v:bI} (h:cW w lab v) (k:Nat):cW w lab (v.tick k):=⟨h.lt,fun i=>aG k i (h.part i)⟩
theorem cW.same {w w':World} {lab:aP} {v:bI} (h:cW w lab v) (hw:aD w w') (k:Nat):fK w lab w' (v.tick k):=⟨lab,(h.ext hw).tick k,fun _ hb=>.inl hb,aF.of hw⟩
theorem fK.pre {w w1 w2:World} {lab:aP} {v:bI} (h:fK w1 lab w2 v) (hw:aD w w1):fK w lab w2 v:=h.trans (fun _ hb=>.inl hb) (aF.of hw)
theorem cW.aside {w:World} {lab:aP} {v:bI} (h:cW w lab v) {n j:Nat} (hn:w.heap.size≤n) {A:Option Addr} (hA:∀ a,A=some a→n≤a.block):dR (lab.own j) A:=fun a ha hb=>by
 have h1:=h.lt _ _ hb
 have h2:=hA a ha
 omega
theorem cW.get_where {w:World} {lab:aP} {v:bI} (h:cW w lab v) (hK:v.K≤4611686018427387904) {key:List UInt8} {A:Option Addr} {n:Nat} (c:Nat) (hk:eK w A n key) (ha:dR (lab.own 4) A) (hn:n≤4611686018427387904) :
 Calls Tryz.prog 85 #[.pointer (some ⟨v.xw,0,none⟩),.slice A n c] w fun e w'=>∃ r:Option Int,e=.returned (.tuple #[.int .i64 (r.getD 0),.bool r.isSome])∧nX v.E key r∧fK w lab w' (v.tick 1):=by
 obtain ⟨p,h1,h2⟩:=h.part 4
 refine (Re h2 (by omega) key A n c hk ha hn).mono ?_
 rintro e w' ⟨r,h3,h4,h5,h6⟩
 refine ⟨r,h3,h4,h.chg1 4 (B':=lab.own 4) (fun b hb=>.inl hb) h5.old h6 (fun i _=>aG 1 i) ⟨p+1,by simp only [bI.tick];omega,h5⟩⟩
theorem cW.get_group {w:World} {lab:aP} {v:bI} (h:cW w lab v) (hK:v.K≤4611686018427387904) {k xk:Nat} (hx:v.gx[k]?=some xk) {key:List UInt8} {A:Option Addr} {n:Nat} (c:Nat) (hk:eK w A n key) (ha:dR (lab.own (k+10)) A) (hn:n≤4611686018427387904) :
 Calls Tryz.prog 85 #[.pointer (some ⟨xk,0,none⟩),.slice A n c] w fun e w'=>∃ r:Option Int,e=.returned (.tuple #[.int .i64 (r.getD 0),.bool r.isSome])∧nX (v.G k) key r∧fK w lab w' (v.tick 1):=by
 obtain ⟨p,h1,h2⟩:=h.part (k+10) xk hx
 refine (Re h2 (by omega) key A n c hk ha hn).mono ?_
 rintro e w' ⟨r,h3,h4,h5,h6⟩
 refine ⟨r,h3,h4,h.chg1 (k+10) (B':=lab.own (k+10)) (fun b hb=>.inl hb) h5.old h6 (fun i _=>aG 1 i) fun x2 y9=>?_⟩
 obtain rfl:xk=x2:=Option.some.inj (hx.symm.trans y9)
 exact ⟨p+1,by simp only [bI.tick];omega,h5⟩
def pC (v:bI) (r:List V) (o:Option Int):Prop:=if aV v.width r=true then nX v.E (pk r) o else o=none
set_option maxRecDepth 100000 in
set_option maxHeartbeats 1000000 in
theorem Ax {w:World} {lab:aP} {v:bI} (h:cW w lab v) (hK:v.K≤4611686018427387904) {r:List V} {A:Option Addr} {n:Nat} (c:Nat) (ha:bD w A n r) (hp:(pk r).length≤4611686018427387904) :
 Calls Tryz.prog 68 #[.pointer (some ⟨v.x,0,none⟩),.slice A n c] w fun e w'=>∃ o:Option Int,pC v r o∧e=.returned (.int .i64 (o.getD (-1)))∧fK w lab w' (v.tick 1):=by
 have HF:=aA (zZ h c ha)
 have H:=aA h
 have HA:=aA ha
 clear h ha
 go_enter Tryz.func68,Tryz.ntmps68
 cases hf:aV v.width r with
 |false=>
  rw [hf] at HF
  go_wp2_with ((with_reducible refine HF.out.mono ?_);rintro e w1 ⟨rfl,h1⟩;have X1:=aA h1;clear h1)
  go_ret
  exact ⟨none,by simp [pC,hf],rfl,H.out.same X1.out 1⟩
 |true=>
  rw [hf] at HF
  go_upto_region 3 with ((with_reducible refine HF.out.mono ?_);rintro e w1 ⟨rfl,h1⟩;have X1:=aA h1;clear h1)
  have H1:=aA (H.out.ext X1.out)
  have a6:w1.cell? ⟨v.x,6,none⟩=some (.pointer (some ⟨v.xw,0,none⟩)):=H1.out.str.cell 6
  have a6:=aB a6
  have HP:=aA (fun w2 (h2:aD w1 w2)=>oX c (HA.out.ext (X1.out.trans h2)))
  refine mM 6 (by kernel_rfl) (by kernel_rfl) (by kernel_rfl) (fun _ _ _ _ _ h=>h) ?_
  iterate 5
   refine aK (by kernel_rfl) (by kernel_rfl) ?_
   apply Exists.intro
   refine ⟨fun w1 aT=>?_,fun K hK=>?_⟩
   ·go_simp;first | done | rfl
   go_simp;refine hK _ _ ?_;clear hK K
  refine cU [] (fun u w2=>bF w2 (fun b=>w1.heap.size≤b) u (pk r)) (fun u w2 w3 _ h2 h3=>h3.ext h2) rfl (by kernel_rfl) (fun w9 hw9=>?_) ?_
  ·clear a6
   simp only [cN]
   go_simp
   refine ⟨aD.refl _,(HP.out w9 hw9).mono fun e w' h=>?_⟩
   obtain ⟨K,rfl,h2,h3⟩:=h
   exact ⟨K,rfl,h3,h2.mono fun b hb=>Nat.le_trans hw9.size hb⟩
  refine aH ⟨rfl,by kernel_rfl,fun w2 uP=>?_⟩
  simp only [bL]
  intro K pI
  obtain ⟨A1,n1,c1,rfl,oI,jT⟩:=pI.at_
  simp only [List.drop,List.take]
  have H2:=aA (H1.out.ext uP)
  obtain rfl:=oI.len
  have HG:=aA (H2.out.get_where hK c1 oI (H1.out.aside (Nat.le_refl _) jT) hp)
  have X2:=aA (X1.out.trans uP)
  clear pI oI jT a6 uP HP
  go_wp2_with ((with_reducible refine HG.out.mono ?_);rintro e w3 ⟨o,rfl,h3,h4⟩;have L3:=aA h3;have S3:=aA h4;clear h3 h4)
  simp only [zcp,zap]
  refine ⟨_,rfl,?_⟩;go_simp
  refine ⟨_,rfl,?_⟩;go_simp
  refine ⟨_,rfl,?_⟩;go_simp
  refine ⟨_,rfl,?_⟩;go_simp
  refine ⟨_,rfl,?_⟩;go_simp
  cases o with
  |none=>
   dsimp only [Option.isSome,Option.getD]
   go_wp2_with fail
   go_ret
   exact ⟨none,by simp only [pC,hf,if_true];exact L3.out,rfl,S3.out.pre X2.out⟩
  |some q=>
   dsimp only [Option.isSome,Option.getD]
   go_wp2_with fail
   go_ret
   exact ⟨some q,by simp only [pC,hf,if_true];exact L3.out,rfl,S3.out.pre X2.out⟩
def aE (g:List Nat) (r:List V):List V:=(dZ r (g.map Int.ofNat)).1
theorem lJ.row {w:World} {B:Nat→Prop} {A:Option Addr} {n:Nat} {gs:List (List Nat)} (h:lJ w B A n gs) {k:Nat} {g:List Nat} (hg:gs[k]?=some g) :
 ∃ b off Ak ck,A=some ⟨b,off,none⟩∧w.cell? ⟨b,off+k,none⟩=some (.slice Ak g.length ck)∧cB w Ak g.length (g.map Int.ofNat):=by
 obtain ⟨h1,-,vs,h3,h4⟩:=h
 obtain ⟨Ak,ck,h5,h6⟩:=h4 k g hg
 have hk:=(List.getElem?_eq_some_iff.1 hg).1
 obtain ⟨b,off,e,hc⟩:=h3.2 (by omega)
 exact ⟨b,off,Ak,ck,e,hc k _ h5,h6.1⟩
set_option maxRecDepth 100000 in
theorem Qz {w:World} {lab:aP} {v:bI} (h:cW w lab v) {k:Nat} {g:List Nat} (hg:v.gs[k]?=some g) (nD:g.length≤1048576) (O0:v.gs.length≤1048576) {r:List V} {A:Option Addr} {n:Nat} (c:Nat) (ha:bD w A n r) :
 Calls Tryz.prog 144 #[.pointer (some ⟨v.x,0,none⟩),.int .i64 k,.slice A n c] w fun e w'=>∃ A' c',e=.returned (.slice A' (aE g r).length c')∧w'.ownsRow w.heap.size 85 3 (.slice A' (aE g r).length c') (aE g r).length (aO (aE g r))∧aD w w':=by
 obtain ⟨b,off,Ak,ck,e,h3,h4⟩:=lJ.row (h.part 1) hg
 have HP:=aA (zT r (g.map Int.ofNat) A Ak n g.length c ck w ha.at_ h4 ha.len nD)
 have a3:w.cell? ⟨v.x,3,none⟩=some (.slice (some ⟨b,off,none⟩) v.gs.length v.cG):=by rw [← e];exact h.str.cell 3
 have hk:=(List.getElem?_eq_some_iff.1 hg).1
 clear h ha h4 e hg
 generalize v.x=x at *
 generalize v.gs.length=m at *
 generalize v.cG=cG at *
 go_enter Tryz.func144,Tryz.ntmps144
 go_wp2_with ((with_reducible refine HP.out.mono ?_);rintro e w1 ⟨A1,c1,rfl,h1,h2⟩;have X1:=aA h1;have X2:=aA h2;clear h1 h2)
 go_ret
 exact ⟨_,_,rfl,X1.out,X2.out⟩
def lB (v:bI) (k:Nat) (g:List Nat) (key:List V) (o:Option Int):Prop:=if key.length=g.length∧cQ key=true then nX (v.G k) (pk key) o else o=none
theorem cW.index {w:World} {lab:aP} {v:bI} (h:cW w lab v) {k xk:Nat} (hx:v.gx[k]?=some xk):∃ b,v.gA=some ⟨b,0,none⟩∧w.cell? ⟨b,k,none⟩=some (.pointer (some ⟨xk,0,none⟩))∧v.gx.length≤v.gC∧v.gC≤9223372036854775807:=by
 have h1:=(h.part 0).2.2.1
 have hk:=(List.getElem?_eq_some_iff.1 hx).1
 obtain ⟨b,e,-,-,hc,-⟩:=h1.at_ (by omega)
 exact ⟨b,e,hc k _ (by simp [lF,hx]),h1.cap⟩
set_option maxRecDepth 100000 in
set_option maxHeartbeats 1000000 in
theorem oH {w:World} {lab:aP} {v:bI} (h:cW w lab v) (hK:v.K≤4611686018427387904) {k xk:Nat} {g:List Nat} (hg:v.gs[k]?=some g) (nD:g.length≤1048576) (hx:v.gx[k]?=some xk) {r:List V} {A:Option Addr} {n:Nat} (c:Nat) (ha:bD w A n r) (hp:(pk r).length≤4611686018427387904) :
 Calls Tryz.prog 90 #[.pointer (some ⟨v.x,0,none⟩),.int .i64 k,.slice A n c] w fun e w'=>∃ o:Option Int,lB v k g r o∧e=.returned (.int .i64 (o.getD (-1)))∧fK w lab w' (v.tick 1):=by
 obtain ⟨b,off,Ak,ck,e,h3,h4⟩:=lJ.row (h.part 1) hg
 have HV:=aA (rX r A n c w ha.at_ ha.len ha.small)
 have a3:w.cell? ⟨v.x,3,none⟩=some (.slice (some ⟨b,off,none⟩) v.gs.length v.cG):=by rw [← e];exact h.str.cell 3
 have hk:=(List.getElem?_eq_some_iff.1 hg).1
 have Ui:=(List.getElem?_eq_some_iff.1 hx).1
 obtain rfl:=ha.at_.len
 have H:=aA h
 have HA:=aA ha
 have HX:=aA hx
 clear h ha h4 e hg hx
 generalize hm:v.gs.length=m at *
 obtain ⟨gl,qx⟩ : ∃ gl,g.length=gl:=⟨_,rfl⟩
 rw [qx] at h3 nD
 go_enter Tryz.func90,Tryz.ntmps90
 by_cases hl:r.length=gl
 ·subst hl
  cases hv:cQ r with
  |false=>
   rw [hv] at HV
   go_wp2_with ((with_reducible refine HV.out.mono ?_);rintro e w1 ⟨rfl,h1⟩;have X1:=aA h1;clear h1)
   go_ret
   exact ⟨none,by simp [lB,hv],rfl,H.out.same X1.out 1⟩
  |true=>
   rw [hv] at HV
   go_upto_region 3 with ((with_reducible refine HV.out.mono ?_);rintro e w1 ⟨rfl,h1⟩;have X1:=aA h1;clear h1)
   have H1:=aA (H.out.ext X1.out)
   obtain ⟨bg,eg,h6,h7⟩:=H1.out.index HX.out
   have a7:w1.cell? ⟨v.x,7,none⟩=some (.slice (some ⟨bg,0,none⟩) v.gx.length v.gC):=by rw [← eg];exact H1.out.str.cell 7
   clear a3 h3
   have a7:=aB a7
   have h6:=aB h6
   have HP:=aA (fun w2 (h2:aD w1 w2)=>oX c (HA.out.ext (X1.out.trans h2)))
   have zc0:(k:Int)<(v.gx.length:Int):=by omega
   refine mM 9 (by kernel_rfl) (by kernel_rfl) (by kernel_rfl) (fun _ _ _ _ _ h=>h) ?_
   iterate 8
    refine aK (by kernel_rfl) (by kernel_rfl) ?_
    apply Exists.intro
    refine ⟨fun w1 aT=>?_,fun K hK=>?_⟩
    ·go_simp;first | done | rfl
    go_simp;refine hK _ _ ?_;clear hK K
   refine cU [] (fun u w2=>bF w2 (fun b=>w1.heap.size≤b) u (pk r)) (fun u w2 w3 _ h2 h3=>h3.ext h2) rfl (by kernel_rfl) (fun w9 hw9=>?_) ?_
   ·clear a7 h6
    simp only [cN]
    go_simp
    refine ⟨aD.refl _,(HP.out w9 hw9).mono fun e w' h=>?_⟩
    obtain ⟨K,rfl,h2,h3⟩:=h
    exact ⟨K,rfl,h3,h2.mono fun b hb=>Nat.le_trans hw9.size hb⟩
   refine aH ⟨rfl,by kernel_rfl,fun w2 uP=>?_⟩
   simp only [bL]
   intro K pI
   obtain ⟨A1,n1,c1,rfl,oI,jT⟩:=pI.at_
   simp only [List.drop,List.take]
   have H2:=aA (H1.out.ext uP)
   obtain rfl:=oI.len
   have HG:=aA (H2.out.get_group hK HX.out c1 oI (H1.out.aside (Nat.le_refl _) jT) hp)
   have X2:=aA (X1.out.trans uP)
   clear pI oI jT a7 h6 uP HP
   go_wp2_with ((with_reducible refine HG.out.mono ?_);rintro e w3 ⟨o,rfl,h3,h4⟩;have L3:=aA h3;have S3:=aA h4;clear h3 h4)
   simp only [zcp,zap]
   refine ⟨_,rfl,?_⟩;go_simp
   refine ⟨_,rfl,?_⟩;go_simp
   refine ⟨_,rfl,?_⟩;go_simp
   refine ⟨_,rfl,?_⟩;go_simp
   refine ⟨_,rfl,?_⟩;go_simp
   cases o with
   |none=>
    dsimp only [Option.isSome,Option.getD]
    go_wp2_with fail
    go_ret
    exact ⟨none,by simp only [lB,hv,qx,and_self,if_true];exact L3.out,rfl,S3.out.pre X2.out⟩
   |some q=>
    dsimp only [Option.isSome,Option.getD]
    go_wp2_with fail
    go_ret
    exact ⟨some q,by simp only [lB,hv,qx,and_self,if_true];exact L3.out,rfl,S3.out.pre X2.out⟩
 ·have F9:¬ (r.length:Int)=(gl:Int):=by omega
  go_wp2_with fail
  go_ret
  exact ⟨none,by simp [lB,qx,hl],rfl,H.out.same (aD.refl _) 1⟩
end Go.Proofs.YtahdiiaadjdmcaaGreat
namespace Go.Proofs.YtahdiiaadjdmcaaGreat
open Go.RowKit
theorem zec {w:World} {B:Nat→Prop} {x most:Nat} {sl:List (fZ Value)} {free:List Nat} {live:Nat} (vk:Int) (h:t0 w B x most sl free live) (hl:live<most) (hg:∀ i,aX sl i<1073741824) :
 Calls Tryz.prog 156 #[.pointer (some ⟨x,0,none⟩),.int .i64 vk] w fun e w'=>∃ i sl' free',sS most sl free (.int .i64 vk) i sl' free'∧e=.returned (.tuple #[.agg #[.int .i64 i,.int .i64 ((aX sl i:Nat)+1:Int)],.int .i64 0])∧δ w B x most sl' free' (live+1) w':=by
 rcases List.eq_nil_or_concat free with rfl | ⟨F,i,rfl⟩
 ·exact Dm h (by have:=h.ok.live;simp at this;omega) hg
 ·rw [List.concat_eq_append] at *
  exact Dj h hg
theorem zdB {w:World} {B:Nat→Prop} {x most:Nat} {sl:List (fZ Value)} {free:List Nat} {live:Nat} (A:Option Addr) (n c:Nat) (h:qF w B x most sl free live) (hl:live<most) (hg:∀ i,aX sl i<1073741824) :
 Calls Tryz.prog 147 #[.pointer (some ⟨x,0,none⟩),.slice A n c] w fun e w'=>∃ i sl' free',xP most sl free (.slice A n c) i sl' free'∧e=.returned (.tuple #[.agg #[.int .i64 i,.int .i64 ((aX sl i:Nat)+1:Int)],.int .i64 0])∧wv w B x most sl' free' (live+1) w':=by
 rcases List.eq_nil_or_concat free with rfl | ⟨F,i,rfl⟩
 ·exact Ea h (by have:=h.ok.live;simp at this;omega) hg
 ·rw [List.concat_eq_append] at *
  exact Dr h hg
theorem cW.take_list {w:World} {lab:aP} {v:bI} (h:cW w lab v) (vk:Int) (hl:v.lL<v.most*v.L) (hg:∀ i,aX v.sL i<1073741824) :
 Calls Tryz.prog 156 #[.pointer (some ⟨v.xl,0,none⟩),.int .i64 vk] w fun e w'=>∃ i sl' free',sS (v.most*v.L) v.sL v.fL (.int .i64 vk) i sl' free'∧e=.returned (.tuple #[.agg #[.int .i64 i,.int .i64 ((aX v.sL i:Nat)+1:Int)],.int .i64 0])∧fK w lab w' {v with sL:=sl',fL:=free',lL:=v.lL+1}:=by
 refine (zec vk (h.part 5) hl hg).mono ?_
 rintro e w' ⟨i,sl',free',h1,h2,B',h3,h4,h5⟩
 refine ⟨i,sl',free',h1,h2,h.chg1 5 (B':=B') h4 h3.lt h5 (fun i hi=>?_) h3⟩
 match i,hi with
 | 0,_=>exact id
 | 1,_=>exact id
 | 2,_=>exact id
 | 3,_=>exact id
 | 4,_=>exact id
 | 5,hi=>exact absurd rfl hi
 | 6,_=>exact id
 | 7,_=>exact id
 | 8,_=>exact id
 | 9,_=>exact id
 | m+10,_=>exact id
theorem eZ {B:Nat→Prop} {w w':World} {b:Nat} (h:w.mapTurned w' b) (hb:B b):aF B w w':=by
 have hg:=h.grown
 exact ⟨hg.os,hg.tape,hg.output,hg.size,fun k hk hB=>hg.block k hk fun e=>hB (by injection e with e;rw [e];exact hb)⟩
theorem cW.put_ref {w w':World} {lab:aP} {v:bI} (h:cW w lab v) {n:Nat} {σ:iV} (hn:n≤v.K+1) (hm:lE w' v.rm n σ) (ht:w.mapTurned w' v.rm):fK w lab w' {v with refs:=σ,K:=v.K+1}:=by
 have h3:=h.part 3
 have hC:=eZ (B:=lab.own 3) ht h3.1
 refine h.chg1 3 (B':=lab.own 3) (fun b hb=>.inl hb) (fun b hb=>Nat.lt_of_lt_of_le (h.lt b _ hb) hC.size) hC (fun i hi=>?_) ⟨h3.1,n,hn,hm⟩
 match i,hi with
 | 0,_=>exact fun h=>aG 1 0 h
 | 1,_=>exact fun h=>aG 1 1 h
 | 2,_=>exact fun h=>aG 1 2 h
 | 3,hi=>exact absurd rfl hi
 | 4,_=>exact fun h=>aG 1 4 h
 | 5,_=>exact fun h=>aG 1 5 h
 | 6,_=>exact fun h=>aG 1 6 h
 | 7,_=>exact fun h=>aG 1 7 h
 | 8,_=>exact fun h=>aG 1 8 h
 | 9,_=>exact fun h=>aG 1 9 h
 | m+10,_=>exact fun h=>aG 1 (m+10) h
theorem cW.put_lref {w w':World} {lab:aP} {v:bI} (h:cW w lab v) {n:Nat} {σ:iV} (hn:n≤v.K+1) (hm:lE w' v.lm n σ) (ht:w.mapTurned w' v.lm):fK w lab w' {v with lrefs:=σ,K:=v.K+1}:=by
 have h3:=h.part 6
 have hC:=eZ (B:=lab.own 6) ht h3.1
 refine h.chg1 6 (B':=lab.own 6) (fun b hb=>.inl hb) (fun b hb=>Nat.lt_of_lt_of_le (h.lt b _ hb) hC.size) hC (fun i hi=>?_) ⟨h3.1,n,hn,hm⟩
 match i,hi with
 | 0,_=>exact fun h=>aG 1 0 h
 | 1,_=>exact fun h=>aG 1 1 h
 | 2,_=>exact fun h=>aG 1 2 h
 | 3,_=>exact fun h=>aG 1 3 h
 | 4,_=>exact fun h=>aG 1 4 h
 | 5,_=>exact fun h=>aG 1 5 h
 | 6,hi=>exact absurd rfl hi
 | 7,_=>exact fun h=>aG 1 7 h
 | 8,_=>exact fun h=>aG 1 8 h
 | 9,_=>exact fun h=>aG 1 9 h
 | m+10,_=>exact fun h=>aG 1 (m+10) h
theorem cW.put_where {w:World} {lab:aP} {v:bI} (h:cW w lab v) (hK:v.K≤4611686018427387904) {key:List UInt8} {A:Option Addr} {n:Nat} (c:Nat) (u:Int) (hk:eK w A n key) (ha:dR (lab.own 4) A) (hl:key.length≤4096) (j8:∀ z,(key,z)∉v.E) (hr:v.E.length<v.most) :
 Calls Tryz.prog 148 #[.pointer (some ⟨v.xw,0,none⟩),.slice A n c,.int .i64 u] w fun e w'=>e=.returned (.tuple #[.int .i64 0,.bool false,.int .i64 0])∧fK w lab w' {v with E:=(key,u) :: v.E,K:=v.K+1}:=by
 obtain ⟨p,h1,h2⟩:=h.part 4
 have Ix:=hk.len
 refine (Q0 h2 (by omega) key u A n c hk ha (by omega)).mono ?_
 rintro e w' ⟨old,had,err,E',B',rfl,h3,h4,h5,h6⟩
 rcases h3 with ⟨h7,_⟩ | ⟨_,_,_,R,h7,_⟩ | ⟨_,_,h7,_⟩ | ⟨_,_,_,rfl,rfl,rfl,rfl⟩
 ·omega
 ·exact absurd (h7.mem_iff.2 (by simp)) (j8 old)
 ·omega
 ·refine ⟨rfl,h.chg1 4 h5 h4.old h6 (fun i hi=>?_) ⟨p+1,by simp only;omega,h4⟩⟩
  match i,hi with
  | 0,_=>exact fun h=>aG 1 0 h
  | 1,_=>exact fun h=>aG 1 1 h
  | 2,_=>exact fun h=>aG 1 2 h
  | 3,_=>exact fun h=>aG 1 3 h
  | 4,hi=>exact absurd rfl hi
  | 5,_=>exact fun h=>aG 1 5 h
  | 6,_=>exact fun h=>aG 1 6 h
  | 7,_=>exact fun h=>aG 1 7 h
  | 8,_=>exact fun h=>aG 1 8 h
  | 9,_=>exact fun h=>aG 1 9 h
  | m+10,_=>exact fun h=>aG 1 (m+10) h
theorem cW.del_where {w:World} {lab:aP} {v:bI} (h:cW w lab v) (hK:v.K≤4611686018427387904) {key:List UInt8} {A:Option Addr} {n:Nat} (c:Nat) {u:Int} (hk:eK w A n key) (ha:dR (lab.own 4) A) (hn:n≤4611686018427387904) (bE:(key,u)∈v.E) (Tj:∀ a b,(key,a)∈v.E→(key,b)∈v.E→a=b) :
 Calls Tryz.prog 145 #[.pointer (some ⟨v.xw,0,none⟩),.slice A n c] w fun e w'=>e=.returned (.tuple #[.int .i64 u,.bool true])∧∃ E',List.Perm v.E ((key,u) :: E')∧fK w lab w' {v with E:=E',K:=v.K+1}:=by
 obtain ⟨p,h1,h2⟩:=h.part 4
 refine (Ap h2 (by omega) key A n c hk ha hn).mono ?_
 rintro e w' ⟨r,rfl,h3,⟨E',h4,h5⟩,h6⟩
 cases r with
 | none=>exact absurd bE (h3.2 rfl u)
 |some z=>
  obtain rfl:=Tj z u (h3.1 z rfl) bE
  refine ⟨rfl,E',h4,h.chg1 4 (B':=lab.own 4) (fun b hb=>.inl hb) h5.old h6 (fun i hi=>?_) ⟨p+1,by simp only;omega,h5⟩⟩
  match i,hi with
  | 0,_=>exact fun h=>aG 1 0 h
  | 1,_=>exact fun h=>aG 1 1 h
  | 2,_=>exact fun h=>aG 1 2 h
  | 3,_=>exact fun h=>aG 1 3 h
  | 4,hi=>exact absurd rfl hi
  | 5,_=>exact fun h=>aG 1 5 h
  | 6,_=>exact fun h=>aG 1 6 h
  | 7,_=>exact fun h=>aG 1 7 h
  | 8,_=>exact fun h=>aG 1 8 h
  | 9,_=>exact fun h=>aG 1 9 h
  | m+10,_=>exact fun h=>aG 1 (m+10) h
theorem cW.append {w:World} {lab:aP} {v:bI} (h:cW w lab v) {n c:Nat} (hn:n<v.most*v.L+1) (hc:c<v.most*v.L) (hl:∀ m,c∉v.cont m) :
 Calls Tryz.prog 151 #[.pointer (some ⟨v.xo,0,none⟩),.int .i64 n,.int .i64 c] w fun e w'=>e=.returned (.int .i64 0)∧fK w lab w' {v with cont:=jV v.cont n (v.cont n ++ [c])}:=by
 refine (Pb (h.part 7) hn hc hl).mono ?_
 rintro e w' ⟨rfl,B',h3,h4,h5⟩
 refine ⟨rfl,h.chg1 7 h4 h3.lt h5 (fun i hi=>?_) h3⟩
 match i,hi with
 | 0,_=>exact id
 | 1,_=>exact id
 | 2,_=>exact id
 | 3,_=>exact id
 | 4,_=>exact id
 | 5,_=>exact id
 | 6,_=>exact id
 | 7,hi=>exact absurd rfl hi
 | 8,_=>exact id
 | 9,_=>exact id
 | m+10,_=>exact id
theorem cW.before {w:World} {lab:aP} {v:bI} (h:cW w lab v) {n c m:Nat} {A D:List Nat} (hAD:v.cont n=A ++ m :: D) (hc:c<v.most*v.L) (hl:∀ m,c∉v.cont m) :
 Calls Tryz.prog 150 #[.pointer (some ⟨v.xo,0,none⟩),.int .i64 c,.int .i64 m] w fun e w'=>e=.returned (.int .i64 0)∧fK w lab w' {v with cont:=jV v.cont n (A ++ c :: m :: D)}:=by
 refine (Mv (h.part 7) hAD hc hl).mono ?_
 rintro e w' ⟨rfl,B',h3,h4,h5⟩
 refine ⟨rfl,h.chg1 7 h4 h3.lt h5 (fun i hi=>?_) h3⟩
 match i,hi with
 | 0,_=>exact id
 | 1,_=>exact id
 | 2,_=>exact id
 | 3,_=>exact id
 | 4,_=>exact id
 | 5,_=>exact id
 | 6,_=>exact id
 | 7,hi=>exact absurd rfl hi
 | 8,_=>exact id
 | 9,_=>exact id
 | m+10,_=>exact id
theorem cW.remove {w:World} {lab:aP} {v:bI} (h:cW w lab v) {n c:Nat} {A D:List Nat} (hAD:v.cont n=A ++ c :: D) :
 Calls Tryz.prog 142 #[.pointer (some ⟨v.xo,0,none⟩),.int .i64 c] w fun e w'=>e=.returned (.int .i64 0)∧fK w lab w' {v with cont:=jV v.cont n (A ++ D)}:=by
 refine (Oc (h.part 7) hAD).mono ?_
 rintro e w' ⟨rfl,h3,h5⟩
 refine ⟨rfl,h.chg1 7 (B':=lab.own 7) (fun b hb=>.inl hb) h3.lt h5 (fun i hi=>?_) h3⟩
 match i,hi with
 | 0,_=>exact id
 | 1,_=>exact id
 | 2,_=>exact id
 | 3,_=>exact id
 | 4,_=>exact id
 | 5,_=>exact id
 | 6,_=>exact id
 | 7,hi=>exact absurd rfl hi
 | 8,_=>exact id
 | 9,_=>exact id
 | m+10,_=>exact id
theorem cW.clen {w:World} {lab:aP} {v:bI} (h:cW w lab v) {n:Nat} (hn:n<v.most*v.L+1) :
 Calls Tryz.prog 152 #[.pointer (some ⟨v.xo,0,none⟩),.int .i64 n] w fun e w'=>e=.returned (.tuple #[.int .i64 (v.cont n).length,.int .i64 0])∧fK w lab w' v:=by
 refine (V9 (h.part 7) hn).mono ?_
 rintro e w' ⟨rfl,B',h3,h4,h5⟩
 refine ⟨rfl,h.chg1 7 h4 h3.lt h5 (fun i hi=>?_) h3⟩
 match i,hi with
 | 0,_=>exact id
 | 1,_=>exact id
 | 2,_=>exact id
 | 3,_=>exact id
 | 4,_=>exact id
 | 5,_=>exact id
 | 6,_=>exact id
 | 7,hi=>exact absurd rfl hi
 | 8,_=>exact id
 | 9,_=>exact id
 | m+10,_=>exact id
theorem cW.ends {w:World} {lab:aP} {v:bI} (h:cW w lab v) {n:Nat} (hn:n<v.most*v.L+1) :
 Calls Tryz.prog 105 #[.pointer (some ⟨v.xo,0,none⟩),.int .i64 n] w fun e w'=>e=.returned (.tuple #[.int .i64 (oi (v.cont n).head?),.int .i64 (oi (v.cont n).getLast?),.int .i64 0])∧fK w lab w' v:=by
 refine (qj (h.part 7) hn).mono ?_
 rintro e w' ⟨rfl,B',h3,h4,h5⟩
 refine ⟨rfl,h.chg1 7 h4 h3.lt h5 (fun i hi=>?_) h3⟩
 match i,hi with
 | 0,_=>exact id
 | 1,_=>exact id
 | 2,_=>exact id
 | 3,_=>exact id
 | 4,_=>exact id
 | 5,_=>exact id
 | 6,_=>exact id
 | 7,hi=>exact absurd rfl hi
 | 8,_=>exact id
 | 9,_=>exact id
 | m+10,_=>exact id
def sF (G:Nat→m8) (k:Nat) (E:m8):Nat→m8:=fun j=>if j=k then E else G j
theorem cW.put_group {w:World} {lab:aP} {v:bI} (h:cW w lab v) (hK:v.K≤4611686018427387904) {k xk:Nat} (hx:v.gx[k]?=some xk) {key:List UInt8} {A:Option Addr} {n:Nat} (c:Nat) (u:Int) (hk:eK w A n key) (ha:dR (lab.own (k+10)) A) (hl:key.length≤4096) (j8:∀ z,(key,z)∉v.G k) (hr:(v.G k).length<v.most) :
 Calls Tryz.prog 148 #[.pointer (some ⟨xk,0,none⟩),.slice A n c,.int .i64 u] w fun e w'=>e=.returned (.tuple #[.int .i64 0,.bool false,.int .i64 0])∧fK w lab w' {v with G:=sF v.G k ((key,u) :: v.G k),K:=v.K+1}:=by
 obtain ⟨p,h1,h2⟩:=h.part (k+10) xk hx
 have Ix:=hk.len
 refine (Q0 h2 (by omega) key u A n c hk ha (by omega)).mono ?_
 rintro e w' ⟨old,had,err,E',B',rfl,h3,h4,h5,h6⟩
 rcases h3 with ⟨h7,_⟩ | ⟨_,_,_,R,h7,_⟩ | ⟨_,_,h7,_⟩ | ⟨_,_,_,rfl,rfl,rfl,rfl⟩
 ·omega
 ·exact absurd (h7.mem_iff.2 (by simp)) (j8 old)
 ·omega
 ·refine ⟨rfl,h.chg1 (k+10) h5 h4.old h6 (fun i hi=>?_) fun x2 y9=>?_⟩
  ·match i,hi with
   | 0,_=>exact fun h=>aG 1 0 h
   | 1,_=>exact fun h=>aG 1 1 h
   | 2,_=>exact fun h=>aG 1 2 h
   | 3,_=>exact fun h=>aG 1 3 h
   | 4,_=>exact fun h=>aG 1 4 h
   | 5,_=>exact fun h=>aG 1 5 h
   | 6,_=>exact fun h=>aG 1 6 h
   | 7,_=>exact fun h=>aG 1 7 h
   | 8,_=>exact fun h=>aG 1 8 h
   | 9,_=>exact fun h=>aG 1 9 h
   |m+10,hi=>
    intro h x2 y9
    obtain ⟨q,h8,h9⟩:=h x2 y9
    exact ⟨q,by simp only;omega,by simp only [sF,if_neg (show ¬ m=k by omega)];exact h9⟩
  ·obtain rfl:xk=x2:=Option.some.inj (hx.symm.trans y9)
   exact ⟨p+1,by simp only;omega,by simp only [sF,if_true];exact h4⟩
theorem cW.del_group {w:World} {lab:aP} {v:bI} (h:cW w lab v) (hK:v.K≤4611686018427387904) {k xk:Nat} (hx:v.gx[k]?=some xk) {key:List UInt8} {A:Option Addr} {n:Nat} (c:Nat) {u:Int} (hk:eK w A n key) (ha:dR (lab.own (k+10)) A) (hn:n≤4611686018427387904) (bE:(key,u)∈v.G k) (Tj:∀ a b,(key,a)∈v.G k→(key,b)∈v.G k→a=b) :
 Calls Tryz.prog 145 #[.pointer (some ⟨xk,0,none⟩),.slice A n c] w fun e w'=>e=.returned (.tuple #[.int .i64 u,.bool true])∧∃ E',List.Perm (v.G k) ((key,u) :: E')∧fK w lab w' {v with G:=sF v.G k E',K:=v.K+1}:=by
 obtain ⟨p,h1,h2⟩:=h.part (k+10) xk hx
 refine (Ap h2 (by omega) key A n c hk ha hn).mono ?_
 rintro e w' ⟨r,rfl,h3,⟨E',h4,h5⟩,h6⟩
 cases r with
 | none=>exact absurd bE (h3.2 rfl u)
 |some z=>
  obtain rfl:=Tj z u (h3.1 z rfl) bE
  refine ⟨rfl,E',h4,h.chg1 (k+10) (B':=lab.own (k+10)) (fun b hb=>.inl hb) h5.old h6 (fun i hi=>?_) fun x2 y9=>?_⟩
  ·match i,hi with
   | 0,_=>exact fun h=>aG 1 0 h
   | 1,_=>exact fun h=>aG 1 1 h
   | 2,_=>exact fun h=>aG 1 2 h
   | 3,_=>exact fun h=>aG 1 3 h
   | 4,_=>exact fun h=>aG 1 4 h
   | 5,_=>exact fun h=>aG 1 5 h
   | 6,_=>exact fun h=>aG 1 6 h
   | 7,_=>exact fun h=>aG 1 7 h
   | 8,_=>exact fun h=>aG 1 8 h
   | 9,_=>exact fun h=>aG 1 9 h
   |m+10,hi=>
    intro h x2 y9
    obtain ⟨q,h8,h9⟩:=h x2 y9
    exact ⟨q,by simp only;omega,by simp only [sF,if_neg (show ¬ m=k by omega)];exact h9⟩
  ·obtain rfl:xk=x2:=Option.some.inj (hx.symm.trans y9)
   exact ⟨p+1,by simp only;omega,by simp only [sF,if_true];exact h5⟩
theorem cW.give_list {w:World} {lab:aP} {v:bI} (h:cW w lab v) {i g:Nat} {u:Value} (hi:v.sL[i]?=some (g,some u)) (hg:g<1073741824) :
 Calls Tryz.prog 153 #[.pointer (some ⟨v.xl,0,none⟩),.agg #[.int .i64 i,.int .i64 g]] w fun e w'=>e=.returned (.int .i64 0)∧fK w lab w' {v with sL:=v.sL.set i (g,none),fL:=v.fL ++ [i],lL:=v.lL - 1}:=by
 refine (Jp (h.part 5) hi hg).mono ?_
 rintro e w' ⟨rfl,B',h3,h4,h5⟩
 refine ⟨rfl,h.chg1 5 h4 h3.lt h5 (fun i hi=>?_) h3⟩
 match i,hi with
 | 0,_=>exact id
 | 1,_=>exact id
 | 2,_=>exact id
 | 3,_=>exact id
 | 4,_=>exact id
 | 5,hi=>exact absurd rfl hi
 | 6,_=>exact id
 | 7,_=>exact id
 | 8,_=>exact id
 | 9,_=>exact id
 | m+10,_=>exact id
theorem cW.give_row {w:World} {lab:aP} {v:bI} (h:cW w lab v) {i g:Nat} {u:Value} (hi:v.sl[i]?=some (g,some u)) (hg:g<1073741824) {P':List (Nat × List V)} (hP:∀ j r,(j,r)∈P'→(j,r)∈v.P∧j≠i) :
 Calls Tryz.prog 146 #[.pointer (some ⟨v.xs,0,none⟩),.agg #[.int .i64 i,.int .i64 g]] w fun e w'=>e=.returned (.int .i64 0)∧fK w lab w' {v with sl:=v.sl.set i (g,none),fr:=v.fr ++ [i],lv:=v.lv - 1,P:=P'}:=by
 have j0:=(List.getElem?_eq_some_iff.1 hi).1
 refine (Lo (h.part 2) hi hg).mono ?_
 rintro e w' ⟨rfl,B',h3,h4,h5⟩
 refine ⟨rfl,h.chg1 2 h4 h3.lt h5 (fun m hm=>?_) h3⟩
 match m,hm with
 | 0,_=>exact id
 | 1,_=>exact id
 | 2,hm=>exact absurd rfl hm
 | 3,_=>exact id
 | 4,_=>exact id
 | 5,_=>exact id
 | 6,_=>exact id
 | 7,_=>exact id
 |8,_=>
  rintro ⟨h6,h7,h8⟩
  refine ⟨fun j r hj=>?_,h7,h8⟩
  obtain ⟨h9,yQ⟩:=hP j r hj
  obtain ⟨A,n,c,Cr,h12⟩:=h6 j r h9
  exact ⟨A,n,c,by simp only;rw [uQ j0,if_neg yQ];exact Cr,h12⟩
 | 9,_=>exact id
 | m+10,_=>exact id
theorem cW.take_row {w:World} {lab:aP} {v:bI} (h:cW w lab v) {A:Option Addr} {n:Nat} (c:Nat) {r:List V} (hr:pW w (lab.own 8) A n r) (hl:v.lv<v.most) (hg:∀ i,aX v.sl i<1073741824) {P':Nat→List (Nat × List V)} (hP:∀ s j q,(j,q)∈P' s→(j,q)∈v.P∨(j=s∧q=r)) :
 Calls Tryz.prog 147 #[.pointer (some ⟨v.xs,0,none⟩),.slice A n c] w fun e w'=>∃ s sl' free',xP v.most v.sl v.fr (.slice A n c) s sl' free'∧e=.returned (.tuple #[.agg #[.int .i64 s,.int .i64 ((aX v.sl s:Nat)+1:Int)],.int .i64 0])∧fK w lab w' {v with sl:=sl',fr:=free',lv:=v.lv+1,P:=P' s}:=by
 refine (zdB A n c (h.part 2) hl hg).mono ?_
 rintro e w' ⟨s,sl',free',h1,h2,B',h3,h4,h5⟩
 have aZ:∀ b,lab.own 8 b→¬ lab.own 2 b:=fun b hb vS=>by
  have h6:some 8=some 2:=hb.symm.trans vS
  injection h6 with h6
  omega
 have hr':=hr.chg h5 aZ
 have vO:oV v.sl s=none:=by
  have h6:=(h.part 2).ok
  have h7:s∈fJ v.most v.sl v.fr:=by rw [h1.fs];simp
  exact (h6.fs_dead (h6.fs_lt s h7)).1 h7
 refine ⟨s,sl',free',h1,h2,?_⟩
 refine h.chg1 2 h4 h3.lt h5 (fun m hm=>?_) h3
 match m,hm with
 | 0,_=>exact id
 | 1,_=>exact id
 | 2,hm=>exact absurd rfl hm
 | 3,_=>exact id
 | 4,_=>exact id
 | 5,_=>exact id
 | 6,_=>exact id
 | 7,_=>exact id
 |8,_=>
  rintro ⟨h6,h7,h8⟩
  refine ⟨fun j q hj=>?_,h7,h8⟩
  rcases hP s j q hj with h9 | ⟨rfl,rfl⟩
  ·obtain ⟨A',n',c',Cr,h12⟩:=h6 j q h9
   refine ⟨A',n',c',?_,h12⟩
   show oV sl' j=_
   rw [h1.th j,if_neg (fun e=>by subst e;rw [vO] at Cr;cases Cr)]
   exact Cr
  ·exact ⟨A,n,c,by show oV sl' j=_;rw [h1.th j,if_pos rfl],hr'⟩
 | 9,_=>exact id
 | m+10,_=>exact id
end Go.Proofs.YtahdiiaadjdmcaaGreat
namespace Go.Proofs.YtahdiiaadjdmcaaGreat
open Go.RowKit
theorem bD.chg {w w':World} {C:Nat→Prop} {A:Option Addr} {n:Nat} {r:List V} (h:bD w A n r) (hA:∀ a,A=some a→¬ C a.block) (hw:aF C w w'):bD w' A n r:=⟨⟨h.at_.1,h.at_.2.chg hw hA⟩,h.len,h.small,h.wf⟩
structure xR (v:bI) (k xk:Nat) (g:List Nat) (key:List V):Prop where
 hg:v.gs[k]?=some g
 gl:g.length≤1048576
 x:v.gx[k]?=some xk
 len:key.length=g.length
 ok:cQ key=true
 pl:(pk key).length≤4096
 one:∀ a b,(pk key,a)∈v.G k→(pk key,b)∈v.G k→a=b
theorem lB.some_of {v:bI} {k xk:Nat} {g:List Nat} {key:List V} {o:Option Int} (h:lB v k g key o) (hk:xR v k xk g key) {q:Int} (hq:(pk key,q)∈v.G k):o=some q:=by
 unfold lB at h
 rw [if_pos ⟨hk.len,hk.ok⟩] at h
 cases o with
 | none=>exact absurd hq (h.2 rfl q)
 | some z=>rw [hk.one z q (h.1 z rfl) hq]
theorem lB.none_of {v:bI} {k xk:Nat} {g:List Nat} {key:List V} {o:Option Int} (h:lB v k g key o) (hk:xR v k xk g key) (hq:∀ q,(pk key,q)∉v.G k):o=none:=by
 unfold lB at h
 rw [if_pos ⟨hk.len,hk.ok⟩] at h
 cases o with
 | none=>rfl
 | some z=>exact absurd (h.1 z rfl) (hq z)
set_option maxRecDepth 100000 in
theorem Vv {w:World} {lab:aP} {v:bI} (h:cW w lab v) (hK:v.K≤4611686018427387904) {k xk:Nat} {g:List Nat} {key:List V} (hk:xR v k xk g key) {A:Option Addr} {n:Nat} (c:Nat) (ha:bD w A n key) {q:Nat} (hq:(pk key,(q:Int))∈v.G k) :
 Calls Tryz.prog 149 #[.pointer (some ⟨v.x,0,none⟩),.int .i64 k,.slice A n c] w fun e w'=>e=.returned (.int .i64 q)∧fK w lab w' (v.tick 1):=by
 have HL:=aA (oH h hK hk.hg hk.gl hk.x c ha (by have:=hk.pl;omega))
 have HK:=aA hk;have HQ:=aA hq
 have K_:(0:Int)≤(q:Int):=by omega
 clear h ha hk hq
 go_enter Tryz.func149,Tryz.ntmps149
 go_wp2_with ((with_reducible refine HL.out.mono ?_);rintro e w1 ⟨o,h1,rfl,h2⟩;obtain rfl:=h1.some_of HK.out HQ.out;have S1:=aA h2;clear h1 h2;dsimp only [Option.getD])
 go_ret
 exact ⟨rfl,S1.out⟩
set_option maxRecDepth 100000 in
set_option maxHeartbeats 1000000 in
theorem Y4 {w:World} {lab:aP} {v:bI} (h:cW w lab v) (hK:v.K≤4611686018427387000) {k xk:Nat} {g:List Nat} {key:List V} (hk:xR v k xk g key) {A:Option Addr} {n:Nat} (c:Nat) (ha:bD w A n key) (hA:∀ a,A=some a→¬ lab.dom a.block) (hq:∀ q,(pk key,q)∉v.G k) (hr:(v.G k).length<v.most) (hl:v.lL<v.most*v.L) (hg:∀ i,aX v.sL i<1073741824) (hm:v.most*v.L≤1048576) :
 Calls Tryz.prog 149 #[.pointer (some ⟨v.x,0,none⟩),.int .i64 k,.slice A n c] w fun e w'=>∃ i sl' free',sS (v.most*v.L) v.sL v.fL (.int .i64 k) i sl' free'∧e=.returned (.int .i64 ((i:Int)+1))∧
  fK w lab w' {v with sL:=sl',fL:=free',lL:=v.lL+1,lrefs:=v.lrefs.put i (.agg #[.int .i64 i,.int .i64 ((aX v.sL i:Nat)+1:Int)]),G:=sF v.G k ((pk key,(i:Int)+1) :: v.G k),K:=v.K+3}:=by
 have HL:=aA (oH h (by omega) hk.hg hk.gl hk.x c ha (by have:=hk.pl;omega))
 have HK:=aA hk;have HQ:=aA hq;have HA:=aA ha;have HG:=aA hg;have HH:=aA h;have HAside:=aA hA
 clear h ha hk hq hg
 go_enter Tryz.func149,Tryz.ntmps149
 go_upto_region 4 with ((with_reducible refine HL.out.mono ?_);rintro e w1 ⟨o,h1,rfl,lab1,s1,d1,c1⟩;obtain rfl:=h1.none_of HK.out HQ.out;have S1:=aA s1;have D1:=aA d1;have C1:=aA c1;clear h1 s1 d1 c1;dsimp only [Option.getD])
 have a8:w1.cell? ⟨v.x,8,none⟩=some (.pointer (some ⟨v.xl,0,none⟩)):=S1.out.str.cell 8
 have HT:=aA (show Calls Tryz.prog 156 #[.pointer (some ⟨v.xl,0,none⟩),.int .i64 (k:Int)] w1 (fun e w'=>∃ i sl' free',sS (v.most*v.L) v.sL v.fL (.int .i64 (k:Int)) i sl' free'∧e=.returned (.tuple #[.agg #[.int .i64 i,.int .i64 ((aX v.sL i:Nat)+1:Int)],.int .i64 0])∧fK w1 lab1 w' {v with sL:=sl',fL:=free',lL:=v.lL+1,K:=v.K+1}) from S1.out.take_list (k:Int) hl HG.out)
 go_upto_region 5 with ((with_reducible refine HT.out.mono ?_);rintro e w2 ⟨i,sl',free',h1,rfl,lab2,s2,d2,c2⟩;have T2:=aA h1;have S2:=aA s2;have D2:=aA d2;have C2:=aA c2;clear h1 s2 d2 c2)
 have hi:i<v.most*v.L:=by
  have h6:=(HH.out.part 5).ok
  exact h6.fs_lt i (by rw [T2.out.fs];simp)
 have HB:=aA (aL.new w2 186 #[.int .i64 i,.int .i64 ((aX v.sL i:Int)+1)])
 have HE:=aA (aD.alloc w2 (.cells #[.int .i64 i,.int .i64 ((aX v.sL i:Int)+1)] 186))
 have S3:=aA (S2.out.ext HE.out)
 have F_:=aA (show ¬ lab2.dom w2.heap.size from fun ⟨j,hj⟩=>by have:=S2.out.lt _ _ hj;omega)
 generalize w2.alloc (.cells #[.int .i64 i,.int .i64 ((aX v.sL i:Int)+1)] 186)=w3 at *
 obtain ⟨b0,hb0⟩ : ∃ b0,w2.heap.size=b0:=⟨_,rfl⟩
 rw [hb0] at HB F_ ⊢
 have a9:w3.cell? ⟨v.x,9,none⟩=some (.map (some v.lm)):=S3.out.str.cell 9
 have r0:w3.cell? ⟨b0,0,none⟩=some (.int .i64 i):=HB.out.cell 0
 have r1:w3.cell? ⟨b0,1,none⟩=some (.int .i64 ((aX v.sL i:Int)+1)):=HB.out.cell 1
 have a9:=aB a9;have r0:=aB r0;have r1:=aB r1
 clear a8 HT HL S1
 refine aC 7 (by kernel_rfl) (by kernel_rfl) (by kernel_rfl) ?_
 iterate 7
  refine aK (by kernel_rfl) (by kernel_rfl) ?_
  apply Exists.intro
  refine ⟨fun w1 aT=>?_,fun K hK=>?_⟩
  ·go_simp;first | done | rfl
  go_simp;refine hK _ _ ?_;clear hK K
 refine aH ⟨rfl,by kernel_rfl,fun w4 hw4=>?_⟩
 simp only [bL,List.drop]
 clear a9 r0 r1
 have S4:=aA (S3.out.ext hw4)
 have B4:=aA (HB.out.ext hw4)
 have E4:=aA (HE.out.trans hw4)
 obtain ⟨-,nn,m7,hmap⟩:=S4.out.part 6
 refine pS rfl (.tmp 29) (.tmp 31) (.tmp 32) 124 186 rfl Tryz.underlying124 v.lm nn v.lrefs rfl hmap (by have h9:nn≤v.K+1:=m7;unfold maxLen;omega) i (.agg #[.int .i64 i,.int .i64 ((aX v.sL i:Int)+1)]) rfl rfl (by omega) ?_
 intro w5 M5 T5
 have SR:=S4.out.put_lref (n:=nn+1) (by have h9:nn≤v.K+1:=m7;show nn+1≤v.K+1+1;omega) M5.out T5.out
 obtain ⟨lab3,s5,d5,c5⟩:=SR
 have S5:=aA s5;have D5:=aA d5;have C5:=aA c5
 have B5:=aA (C5.out.blk B4.out F_.out)
 have Wz:=aA (show ¬ lab3.dom b0 from fun hd=>by
  rcases D5.out _ hd with h9 | h9
  ·exact F_.out h9
  ·have:=B4.out.lt;omega)
 clear s5 d5 c5 hmap hw4 M5 T5 m7
 go_upto_region 6 with fail
 obtain ⟨bg,eg,h6,h7⟩:=S5.out.index HK.out.x
 have a7:w5.cell? ⟨v.x,7,none⟩=some (.slice (some ⟨bg,0,none⟩) v.gx.length v.gC):=by have h9:=S5.out.str.cell 7;rw [← eg];exact h9
 have r0:w5.cell? ⟨b0,0,none⟩=some (.int .i64 i):=B5.out.cell 0
 have Ui:=(List.getElem?_eq_some_iff.1 HK.out.x).1
 have zc0:(k:Int)<(v.gx.length:Int):=by omega
 have zgH:v.gx.length≤v.gC:=h7.1
 have zfN:v.gC≤9223372036854775807:=h7.2
 have zke:IntKind.i64.wrap ((i:Int)+1)=(i:Int)+1:=IntWalk.i64_in _ (by omega)
 replace h6:w5.cell? ⟨bg,k,none⟩=some (.pointer (some ⟨xk,0,none⟩)):=h6
 have a7:=aB a7
 have h6:=aB h6
 have r0:=aB r0
 have ze1:=C1.out.trans C2.out fun g hg hl=>(D1.out g hg).resolve_right (by omega)
 have zbl:∀ b,lab2.dom b→lab.dom b∨w.heap.size≤b:=fun b hb=>by
  rcases D2.out b hb with h9 | h9
  ·exact D1.out b h9
  ·exact .inr (Nat.le_trans C1.out.size h9)
 have Tn:=(ze1.trans' (aF.of E4.out)).trans C5.out fun g hg hl=>(zbl g hg).resolve_right (by omega)
 have jm:=aA (HA.out.chg HAside.out Tn)
 clear ze1 zbl Tn
 have HP:=aA (fun w6 (h2:aD w5 w6)=>oX c (jm.out.ext h2))
 clear h7 S4 S3 S2 B4
 refine aC 12 (by kernel_rfl) (by kernel_rfl) (by kernel_rfl) ?_
 iterate 8
  refine aK (by kernel_rfl) (by kernel_rfl) ?_
  apply Exists.intro
  refine ⟨fun w1 aT=>?_,fun K hK=>?_⟩
  ·go_simp;first | done | rfl
  go_simp;refine hK _ _ ?_;clear hK K
 refine cU [] (fun u w2=>bF w2 (fun b=>w5.heap.size≤b) u (pk key)) (fun u w2 w3 _ h2 h3=>h3.ext h2) rfl (by kernel_rfl) (fun w9 hw9=>?_) ?_
 ·clear a7 h6 r0
  simp only [cN]
  go_simp
  refine ⟨aD.refl _,(HP.out w9 hw9).mono fun e w' h=>?_⟩
  obtain ⟨K,rfl,h2,h3⟩:=h
  exact ⟨K,rfl,h3,h2.mono fun b hb=>Nat.le_trans hw9.size hb⟩
 iterate 3
  refine aK (by kernel_rfl) (by kernel_rfl) ?_
  apply Exists.intro
  refine ⟨fun w1 aT=>?_,fun K hK=>?_⟩
  ·go_simp;first | done | rfl
  go_simp;refine hK _ _ ?_;clear hK K
 refine aH ⟨rfl,by kernel_rfl,fun w6 hw6=>?_⟩
 simp only [bL]
 intro K pI
 obtain ⟨A1,n1,c1,rfl,oI,jT⟩:=pI.at_
 simp only [List.drop]
 have S6:=aA (S5.out.ext hw6)
 have B6:=aA (B5.out.ext hw6)
 have zgQ:=Wz
 obtain rfl:=oI.len
 have HPut:=aA (show Calls Tryz.prog 148 #[.pointer (some ⟨xk,0,none⟩),.slice A1 (pk key).length c1,.int .i64 ((i:Int)+1)] w6 (fun e w'=>e=.returned (.tuple #[.int .i64 0,.bool false,.int .i64 0])∧fK w6 lab3 w' {v with sL:=sl',fL:=free',lL:=v.lL+1,lrefs:=v.lrefs.put i (.agg #[.int .i64 i,.int .i64 ((aX v.sL i:Int)+1)]),G:=sF v.G k ((pk key,(i:Int)+1) :: v.G k),K:=v.K+3}) from S6.out.put_group (by show v.K+1+1≤_;omega) HK.out.x c1 ((i:Int)+1) oI (S5.out.aside (Nat.le_refl _) jT) HK.out.pl HQ.out hr)
 have E6:=aA hw6
 clear pI oI jT a7 h6 r0 hw6 HP
 go_upto_region 7 with ((with_reducible refine HPut.out.mono ?_);rintro e w7 ⟨rfl,lab4,s7,d7,c7⟩;have S7:=aA s7;have D7:=aA d7;have C7:=aA c7;clear s7 d7 c7)
 have r0:w7.cell? ⟨b0,0,none⟩=some (.int .i64 i):=(C7.out.blk B6.out zgQ.out).cell 0
 go_wp2_with fail
 go_ret
 refine ⟨i,sl',free',T2.out,rfl,?_⟩
 refine fK.trans (lab1:=lab1) (fK.trans (lab1:=lab2) (w1:=w2) (fK.pre (w1:=w4) (fK.trans (lab1:=lab3) (w1:=w5) (fK.pre (w1:=w6) ⟨lab4,S7.out,D7.out,C7.out⟩ E6.out) D5.out C5.out) E4.out) D2.out C2.out) D1.out C1.out
theorem yw (w:World):(zeroValue 186).run Tryz.prog w=.ok (.agg #[.int .i64 0,.int .i64 0]) w:=by kernel_rfl
set_option maxRecDepth 100000 in
theorem Vc {w:World} {lab:aP} {v:bI} (h:cW w lab v) (hK:v.K≤4611686018427387000) {k xk:Nat} {g:List Nat} {key:List V} (hk:xR v k xk g key) {A:Option Addr} {n:Nat} (c:Nat) (ha:bD w A n key) {q:Nat} (hq:(pk key,(q:Int))∈v.G k) (hql:q<v.most*v.L+1) (aZ:v.cont q≠[]) :
 Calls Tryz.prog 143 #[.pointer (some ⟨v.x,0,none⟩),.int .i64 k,.slice A n c] w fun e w'=>e=.returned (.tuple #[])∧fK w lab w' (v.tick 1):=by
 have HL:=aA (oH h (by omega) hk.hg hk.gl hk.x c ha (by have:=hk.pl;omega))
 have HK:=aA hk;have HQ:=aA hq
 have zdY:(0:Int)<((v.cont q).length:Int):=by
  have:=List.length_pos_iff.2 aZ
  omega
 clear h ha hk hq
 go_enter Tryz.func143,Tryz.ntmps143
 go_upto_region 1 with ((with_reducible refine HL.out.mono ?_);rintro e w1 ⟨o,h1,rfl,lab1,s1,d1,c1⟩;obtain rfl:=h1.some_of HK.out HQ.out;have S1:=aA s1;have D1:=aA d1;have C1:=aA c1;clear h1 s1 d1 c1;dsimp only [Option.getD])
 have a10:w1.cell? ⟨v.x,10,none⟩=some (.pointer (some ⟨v.xo,0,none⟩)):=S1.out.str.cell 10
 have HN:=aA (show Calls Tryz.prog 152 #[.pointer (some ⟨v.xo,0,none⟩),.int .i64 q] w1 (fun e w'=>e=.returned (.tuple #[.int .i64 (v.cont q).length,.int .i64 0])∧fK w1 lab1 w' (v.tick 1)) from S1.out.clen hql)
 go_wp2_with ((with_reducible refine HN.out.mono ?_);rintro e w2 ⟨rfl,h2⟩;have S2:=aA h2;clear h2)
 refine bodyPost_ret (v:=.tuple #[]) (by simp [results,Tryz.results143,go_sem]) rfl ?_
 exact ⟨rfl,S2.out.trans D1.out C1.out⟩
set_option maxRecDepth 100000 in
set_option maxHeartbeats 1000000 in
theorem Ts {w:World} {lab:aP} {v:bI} (h:cW w lab v) (hK:v.K≤4611686018427387000) {k xk:Nat} {g:List Nat} {key:List V} (hk:xR v k xk g key) {A:Option Addr} {n:Nat} (c:Nat) (ha:bD w A n key) (hA:∀ a,A=some a→¬ lab.dom a.block) {i gn:Nat} {u:Value} (hq:(pk key,(i:Int)+1)∈v.G k) (hi:i<v.most*v.L) (hm:v.most*v.L≤1048576) (aZ:v.cont (i+1)=[])
 (hs:v.sL[i]?=some (gn,some u)) (wT:gn<1073741824) (hr:v.lrefs i=some (.agg #[.int .i64 i,.int .i64 gn])) :
 Calls Tryz.prog 143 #[.pointer (some ⟨v.x,0,none⟩),.int .i64 k,.slice A n c] w fun e w'=>e=.returned (.tuple #[])∧∃ E',List.Perm (v.G k) ((pk key,(i:Int)+1) :: E')∧fK w lab w' {v with sL:=v.sL.set i (gn,none),fL:=v.fL ++ [i],lL:=v.lL - 1,lrefs:=v.lrefs.del i,G:=sF v.G k E',K:=v.K+3}:=by
 have HL:=aA (oH h (by omega) hk.hg hk.gl hk.x c ha (by have:=hk.pl;omega))
 have HK:=aA hk;have HQ:=aA hq;have HA:=aA ha;have HAside:=aA hA
 have HS:=aA hs;have HRf:=aA hr
 have zke:IntKind.i64.wrap ((i:Int))=(i:Int):=IntWalk.i64_in _ (by omega)
 clear h ha hk hq hs hr hA
 go_enter Tryz.func143,Tryz.ntmps143
 go_upto_region 1 with ((with_reducible refine HL.out.mono ?_);rintro e w1 ⟨o,h1,rfl,lab1,s1,d1,c1⟩;obtain rfl:=h1.some_of HK.out HQ.out;have S1:=aA s1;have D1:=aA d1;have C1:=aA c1;clear h1 s1 d1 c1;dsimp only [Option.getD])
 have a10:w1.cell? ⟨v.x,10,none⟩=some (.pointer (some ⟨v.xo,0,none⟩)):=S1.out.str.cell 10
 have HN:=aA (show Calls Tryz.prog 152 #[.pointer (some ⟨v.xo,0,none⟩),.int .i64 ((i:Int)+1)] w1 (fun e w'=>e=.returned (.tuple #[.int .i64 0,.int .i64 0])∧fK w1 lab1 w' (v.tick 1)) from by
  have h9:=S1.out.clen (n:=i+1) (by show i+1<v.most*v.L+1;omega)
  rw [show (v.tick 1).cont (i+1)=[] from aZ] at h9
  exact h9)
 go_upto_region 3 with ((with_reducible refine HN.out.mono ?_);rintro e w2 ⟨rfl,lab2,s2,d2,c2⟩;have S2:=aA s2;have D2:=aA d2;have C2:=aA c2;clear s2 d2 c2)
 have a8:w2.cell? ⟨v.x,8,none⟩=some (.pointer (some ⟨v.xl,0,none⟩)):=S2.out.str.cell 8
 have a9:w2.cell? ⟨v.x,9,none⟩=some (.map (some v.lm)):=S2.out.str.cell 9
 have qH:∀ w3,aD w2 w3→(Instr.lookup 124 (.map (some v.lm)) (.int .i64 (i:Int)) false).run Tryz.prog w3=.ok (.agg #[.int .i64 i,.int .i64 gn]) w3:=fun w3 h3=>by
  obtain ⟨-,nn,-,hmap⟩:=(S2.out.ext h3).part 6
  have h9:=vL 124 186 Tryz.underlying124 (z:=.agg #[.int .i64 0,.int .i64 0]) (fun w=>yw w) hmap (k:=i) (by omega)
  rw [show (v.tick 1).lrefs i=_ from HRf.out] at h9
  exact h9
 have a8:=aB a8;have a9:=aB a9
 refine aC 11 (by kernel_rfl) (by kernel_rfl) (by kernel_rfl) ?_
 iterate 11
  refine aK (by kernel_rfl) (by kernel_rfl) ?_
  apply Exists.intro
  refine ⟨fun w1 aT=>?_,fun K hK=>?_⟩
  ·go_simp;first | done | rfl
  go_simp;refine hK _ _ ?_;clear hK K
 refine aH ⟨rfl,by kernel_rfl,fun w3 hw3=>?_⟩
 simp only [bL,List.drop]
 clear a8 a9 qH
 have S3:=aA (S2.out.ext hw3)
 have HGv:=aA (show Calls Tryz.prog 153 #[.pointer (some ⟨v.xl,0,none⟩),.agg #[.int .i64 i,.int .i64 gn]] w3 (fun e w'=>e=.returned (.int .i64 0)∧fK w3 lab2 w' {v with sL:=v.sL.set i (gn,none),fL:=v.fL ++ [i],lL:=v.lL - 1,K:=v.K+1}) from S3.out.give_list HS.out wT)
 go_upto_region 4 with ((with_reducible refine HGv.out.mono ?_);rintro e w4 ⟨rfl,lab4,s4,d4,c4⟩;have S4:=aA s4;have D4:=aA d4;have C4:=aA c4;clear s4 d4 c4)
 have a9:w4.cell? ⟨v.x,9,none⟩=some (.map (some v.lm)):=S4.out.str.cell 9
 obtain ⟨-,nn,m7,hmap⟩:=S4.out.part 6
 have HM:=aA hmap
 have zgP:=aA (show nn≤v.K+1 from m7)
 clear hmap m7 HGv HN HL a10
 go_upto_region 5 with (at_delete;refine p6 rfl (.tmp 39) (.tmp 41) 124 186 rfl Tryz.underlying124 v.lm nn v.lrefs rfl HM.out i rfl (by omega) ?_;intro w5 M5 T5)
 obtain ⟨lab5,s5,d5,c5⟩:=S4.out.put_lref (n:=nn) (by have:=zgP.out;show nn≤v.K+1+1;omega) M5.out T5.out
 have S5:=aA s5;have D5:=aA d5;have C5:=aA c5
 clear s5 d5 c5 M5 T5 a9 HM
 obtain ⟨bg,eg,h6,h7⟩:=S5.out.index HK.out.x
 have a7:w5.cell? ⟨v.x,7,none⟩=some (.slice (some ⟨bg,0,none⟩) v.gx.length v.gC):=by have h9:=S5.out.str.cell 7;rw [← eg];exact h9
 have Ui:=(List.getElem?_eq_some_iff.1 HK.out.x).1
 have zc0:(k:Int)<(v.gx.length:Int):=by omega
 have zgH:v.gx.length≤v.gC:=h7.1
 have zfN:v.gC≤9223372036854775807:=h7.2
 replace h6:w5.cell? ⟨bg,k,none⟩=some (.pointer (some ⟨xk,0,none⟩)):=h6
 have a7:=aB a7
 have h6:=aB h6
 have R5:=fK.trans (lab1:=lab1) (fK.trans (lab1:=lab2) (w1:=w2) (fK.pre (w1:=w3) (fK.trans (lab1:=lab4) (w1:=w4) ⟨lab5,S5.out,D5.out,C5.out⟩ D4.out C4.out) hw3) D2.out C2.out) D1.out C1.out
 have jm:=aA (HA.out.chg HAside.out (R5.elim fun _ h=>h.2.2))
 have HP:=aA (fun w6 (h2:aD w5 w6)=>oX c (jm.out.ext h2))
 clear h7 R5
 refine aC 9 (by kernel_rfl) (by kernel_rfl) (by kernel_rfl) ?_
 iterate 8
  refine aK (by kernel_rfl) (by kernel_rfl) ?_
  apply Exists.intro
  refine ⟨fun w1 aT=>?_,fun K hK=>?_⟩
  ·go_simp;first | done | rfl
  go_simp;refine hK _ _ ?_;clear hK K
 refine cU [] (fun u w2=>bF w2 (fun b=>w5.heap.size≤b) u (pk key)) (fun u w2 w3 _ h2 h3=>h3.ext h2) rfl (by kernel_rfl) (fun w9 hw9=>?_) ?_
 ·clear a7 h6
  simp only [cN]
  go_simp
  refine ⟨aD.refl _,(HP.out w9 hw9).mono fun e w' h=>?_⟩
  obtain ⟨K,rfl,h2,h3⟩:=h
  exact ⟨K,rfl,h3,h2.mono fun b hb=>Nat.le_trans hw9.size hb⟩
 refine aH ⟨rfl,by kernel_rfl,fun w6 hw6=>?_⟩
 simp only [bL]
 intro K pI
 obtain ⟨A1,n1,c1,rfl,oI,jT⟩:=pI.at_
 simp only [List.drop]
 have S6:=aA (S5.out.ext hw6)
 obtain rfl:=oI.len
 have HDel:=aA (show Calls Tryz.prog 145 #[.pointer (some ⟨xk,0,none⟩),.slice A1 (pk key).length c1] w6 (fun e w'=>e=.returned (.tuple #[.int .i64 ((i:Int)+1),.bool true])∧∃ E',List.Perm (v.G k) ((pk key,(i:Int)+1) :: E')∧fK w6 lab5 w' {v with sL:=v.sL.set i (gn,none),fL:=v.fL ++ [i],lL:=v.lL - 1,lrefs:=v.lrefs.del i,G:=sF v.G k E',K:=v.K+3}) from S6.out.del_group (by show v.K+1+1≤_;omega) HK.out.x c1 oI (S5.out.aside (Nat.le_refl _) jT) (by have:=HK.out.pl;omega) HQ.out HK.out.one)
 have E6:=aA hw6;have E3:=aA hw3
 clear pI oI jT a7 h6 hw6 HP hw3
 go_wp2_with ((with_reducible refine HDel.out.mono ?_);rintro e w7 ⟨rfl,E',hE',lab7,s7,d7,c7⟩;have P7:=aA hE';have S7:=aA s7;have D7:=aA d7;have C7:=aA c7;clear hE' s7 d7 c7)
 refine bodyPost_end (v:=.tuple #[]) (by simp [results,Tryz.results143,go_sem]) rfl ?_
 refine ⟨rfl,E',P7.out,?_⟩
 exact fK.trans (lab1:=lab1) (fK.trans (lab1:=lab2) (w1:=w2) (fK.pre (w1:=w3) (fK.trans (lab1:=lab4) (w1:=w4) (fK.trans (lab1:=lab5) (w1:=w5) (fK.pre (w1:=w6) ⟨lab7,S7.out,D7.out,C7.out⟩ E6.out) D5.out C5.out) D4.out C4.out) E3.out) D2.out C2.out) D1.out C1.out
end Go.Proofs.YtahdiiaadjdmcaaGreat
