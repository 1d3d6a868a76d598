import Derived.Test.YtahdiiaadjdmcaaGreatGaA
import Derived.IntWalk
import Derived.Deep.Cut
import Derived.WalkMore
import Derived.Test.YtahdiiaadjdmcaaGreatExtP
import Derived.Maps.OwnSet
namespace Go.Proofs.YtahdiiaadjdmcaaGreat
open Go.RowKit
def nF (sl:List (fZ Value)):List Value:=sl.flatMap fun x=>[.int .i64 (x.1:Int),.bool x.2.isSome,x.2.getD (.int .i64 0)]
theorem Ly (l m:List (fZ Value)):nF (l ++ m)=nF l ++ nF m:=by simp [nF]
theorem Cc:∀ {l:List (fZ Value)} {i:Nat} {x:fZ Value},l[i]?=some x→(nF l)[i*3]?=some (.int .i64 (x.1:Int))∧(nF l)[i*3+1]?=some (.bool x.2.isSome)∧(nF l)[i*3+2]?=some (x.2.getD (.int .i64 0))
 | [],_,_,h=>by simp at h
 |a :: l,0,x,h=>by
  simp only [List.getElem?_cons_zero,Option.some.injEq] at h
  subst h
  exact ⟨rfl,rfl,rfl⟩
 |a :: l,i+1,x,h=>by
  simp only [List.getElem?_cons_succ] at h
  have:=Cc h
  have e:∀ j,(nF (a :: l))[(i+1)*3+j]?=(nF l)[i*3+j]?:=fun j=>by
   show ([Value.int .i64 (a.1:Int),.bool a.2.isSome,a.2.getD (.int .i64 0)] ++ nF l)[(i+1)*3+j]?=_
   rw [List.getElem?_append_right (by simp;omega)]
   congr 1
   simp;omega
  exact ⟨(e 0).trans this.1,(e 1).trans this.2.1,(e 2).trans this.2.2⟩
theorem z8:∀ (l:List (fZ Value)) (i:Nat) (x:fZ Value),(((nF l).set (i*3) (.int .i64 (x.1:Int))).set (i*3+1) (.bool x.2.isSome)).set (i*3+2) (x.2.getD (.int .i64 0))=nF (l.set i x)
 | [],_,_=>by simp [nF]
 | a :: l,0,x=>rfl
 |a :: l,i+1,x=>by
  have ih:=z8 l i x
  show ((([Value.int .i64 (a.1:Int),.bool a.2.isSome,a.2.getD (.int .i64 0)] ++ nF l).set ((i+1)*3) _).set ((i+1)*3+1) _).set ((i+1)*3+2) _=[Value.int .i64 (a.1:Int),.bool a.2.isSome,a.2.getD (.int .i64 0)] ++ nF (l.set i x)
  rw [← ih,List.set_append_right _ _ (by simp;omega),List.set_append_right _ _ (by simp;omega),List.set_append_right _ _ (by simp;omega)]
  have e0:(i+1)*3 - [Value.int .i64 (a.1:Int),.bool a.2.isSome,a.2.getD (.int .i64 0)].length=i*3:=by simp;omega
  have e1:(i+1)*3+1 - [Value.int .i64 (a.1:Int),.bool a.2.isSome,a.2.getD (.int .i64 0)].length=i*3+1:=by simp;omega
  have e2:(i+1)*3+2 - [Value.int .i64 (a.1:Int),.bool a.2.isSome,a.2.getD (.int .i64 0)].length=i*3+2:=by simp;omega
  rw [e0,e1,e2]
theorem Sx {l:List (fZ Value)} {i:Nat} {x:fZ Value} (h:l[i]?=some x):(nF l).set (i*3) (.int .i64 (x.1:Int))=nF l:=by
 obtain ⟨hi,e⟩:=List.getElem?_eq_some_iff.1 (Cc h).1
 rw [← e];exact List.set_getElem_self hi
structure dA (w:World) (B:Nat→Prop) (x most:Nat) (SA:Option Addr) (cS:Nat) (FA:Option Addr) (cF:Nat) (sl:List (fZ Value)) (free:List Nat) (live:Nat):Prop where
 blk:aL w x 203 #[.int .i64 most,.int .i64 1073741824,.slice SA sl.length cS,.slice FA free.length cF,.int .i64 live]
 oS:aJ w B 254 3 sl.length (.slice SA sl.length cS) (nF sl)
 oF:aJ w B 3 1 free.length (.slice FA free.length cF) (hZ free)
 inB:B x
section
variable {w w':World} {B C:Nat→Prop} {x most:Nat} {SA:Option Addr} {cS:Nat} {FA:Option Addr} {cF:Nat} {sl:List (fZ Value)} {free:List Nat} {live:Nat}
theorem dA.chg (h:dA w B x most SA cS FA cF sl free live) (hw:aF C w w') (hC:∀ g,B g→¬ C g):dA w' B x most SA cS FA cF sl free live:=
 ⟨hw.blk h.blk (hC x h.inB),h.oS.chg hw hC,h.oF.chg hw hC,h.inB⟩
theorem dA.ext (h:dA w B x most SA cS FA cF sl free live) (hw:aD w w'):dA w' B x most SA cS FA cF sl free live:=h.chg (C:=fun _=>False) (aF.of hw) fun _ _ x=>x
theorem dA.mono (h:dA w B x most SA cS FA cF sl free live) (hC:∀ g,B g→C g):dA w C x most SA cS FA cF sl free live:=⟨h.blk,h.oS.mono hC,h.oF.mono hC,hC _ h.inB⟩
theorem dA.slot (h:dA w B x most SA cS FA cF sl free live) {i:Nat} {p:fZ Value} (hp:sl[i]?=some p) :
 ∃ g,SA=some ⟨g,0,none⟩∧B g∧g≠x∧g<w.heap.size∧w.cell? ⟨g,i*3,none⟩=some (.int .i64 (p.1:Int))∧w.cell? ⟨g,i*3+1,none⟩=some (.bool p.2.isSome)∧w.cell? ⟨g,i*3+2,none⟩=some (p.2.getD (.int .i64 0))∧∀ j,w.frozen? ⟨g,j,none⟩=false:=by
 obtain ⟨g,h1,h2,h3,h4,h5⟩:=h.oS.at_ (by have:=(List.getElem?_eq_some_iff.1 hp).1;omega)
 obtain ⟨k0,k1,k2⟩:=Cc hp
 refine ⟨g,h1,h2,fun e=>?_,h3,h4 _ _ k0,h4 _ _ k1,h4 _ _ k2,h5⟩
 exact dF h.oS.own h.blk (by decide) (by rw [h1,← e];rfl)
theorem dA.setX (h:dA w B x most SA cS FA cF sl free live) (v:Nat) (u:Int) (hu:u=(v:Int)):dA (w.setCell ⟨x,4,none⟩ (.int .i64 u)) B x most SA cS FA cF sl free v:=by
 subst hu
 exact ⟨h.blk.set_ 4 _,h.oS.far h.blk (by decide) 4 _,h.oF.far h.blk (by decide) 4 _,h.inB⟩
theorem dA.pop {k:Nat} (h:dA w B x most SA cS FA cF sl (free ++ [k]) live):dA (w.setCell ⟨x,3,none⟩ (.slice FA free.length cF)) B x most SA cS FA cF sl free live:=by
 have ht:=h.oF
 rw [List.length_append] at ht
 have h2:=ht.take free.length (by simp)
 rw [Nat.mul_one,show hZ (free ++ [k])=hZ free ++ hZ [k] by simp [hZ],List.take_left' (by simp [hZ])] at h2
 exact ⟨h.blk.set_ 3 _,h.oS.far h.blk (by decide) 3 _,h2.far h.blk (by decide) 3 _,h.inB⟩
theorem dA.set3 {g i:Nat} (h:dA w B x most (some ⟨g,0,none⟩) cS FA cF sl free live) (y:fZ Value):dA (((w.setCell ⟨g,i*3,none⟩ (.int .i64 (y.1:Int))).setCell ⟨g,i*3+1,none⟩ (.bool y.2.isSome)).setCell ⟨g,i*3+2,none⟩ (y.2.getD (.int .i64 0))) B x most (some ⟨g,0,none⟩) cS FA cF (sl.set i y) free live:=by
 obtain ⟨cs,hb⟩ : ∃ cs,aL w g 254 cs:=by
  rcases h.oS.own.2 with ⟨h3,_⟩ | ⟨g',cap,cur,h3,_,h4,_⟩
  ·cases h3
  ·injection h3 with h3 _ _
   injection h3 with h3
   injection h3 with h3
   subst h3
   exact ⟨cur,h4⟩
 have hx:x≠g:=fun e=>by
  subst e
  exact dF h.oS.own h.blk (by decide) rfl
 have oY:=hb.set_ (i*3) (.int .i64 (y.1:Int))
 have vS:=oY.set_ (i*3+1) (.bool y.2.isSome)
 refine ⟨?_,?_,((h.oF.far hb (by decide) _ _).far oY (by decide) _ _).far vS (by decide) _ _,h.inB⟩
 ·rw [List.length_set];exact ((h.blk.far (p:=⟨g,i*3,none⟩) hx _).far (p:=⟨g,i*3+1,none⟩) hx _).far (p:=⟨g,i*3+2,none⟩) hx _
 ·rw [List.length_set,← z8];exact ((h.oS.put _ _).put _ _).put _ _
end
theorem kw:(Tryz.prog.info? 254).map (fun i=>(i.zero,i.size,i.bytes))=some (some (.agg #[.int .i64 0,.bool false,.int .i64 0]),3,24):=by kernel_rfl
structure t0 (w:World) (B:Nat→Prop) (x most:Nat) (sl:List (fZ Value)) (free:List Nat) (live:Nat):Prop where
 mem:∃ SA cS FA cF,dA w B x most SA cS FA cF sl free live
 ok:mH most sl free live
 lt:∀ b,B b→b<w.heap.size
 mm:most≤1048576
 gen:∀ i,aX sl i≤1073741824
theorem t0.chg {w w':World} {B C:Nat→Prop} {x most:Nat} {sl:List (fZ Value)} {free:List Nat} {live:Nat} (h:t0 w B x most sl free live) (hw:aF C w w') (hC:∀ g,B g→¬ C g):t0 w' B x most sl free live:=by
 obtain ⟨SA,cS,FA,cF,h1⟩:=h.mem
 exact ⟨⟨SA,cS,FA,cF,h1.chg hw hC⟩,h.ok,fun b hb=>Nat.lt_of_lt_of_le (h.lt b hb) hw.size,h.mm,h.gen⟩
set_option maxRecDepth 100000 in
theorem Om (most:Nat) (w:World) (h1:1≤most) (h2:most≤1048576) :
 Calls Tryz.prog 94 #[.int .i64 most,.int .i64 1073741824] w fun e w'=>∃ x,e=.returned (.tuple #[.pointer (some ⟨x,0,none⟩),.int .i64 0])∧t0 w' (fun b=>b=x) x most [] [] 0∧w.heap.size≤x∧aD w w':=by
 have nM:¬ (most:Int)<1:=by omega
 have pT:¬ (1048576:Int)<(most:Int):=by omega
 go_enter Tryz.func94,Tryz.ntmps94
 go_wp2_with fail
 go_ret2
 have hb:=aL.new w 203 #[.int .i64 most,.int .i64 1073741824,.slice none 0 0,.slice none 0 0,.int .i64 0]
 exact ⟨_,rfl,⟨⟨none,0,none,0,⟨hb,aJ.nil _ _ _ _,aJ.nil _ _ _ _,rfl⟩⟩,mH.empty _,fun b vS=>by subst vS;exact hb.lt,h2,fun i=>by simp [aX]⟩,Nat.le_refl _,aD.alloc _ _⟩
set_option maxRecDepth 100000 in
theorem Pt {w:World} {B:Nat→Prop} {x most:Nat} {SA:Option Addr} {cS:Nat} {FA:Option Addr} {cF:Nat} {sl:List (fZ Value)} {free:List Nat} {live:Nat} (h:dA w B x most SA cS FA cF sl free live) {i g:Nat} {v:Value} (hi:sl[i]?=some (g,some v)) :
 Calls Tryz.prog 159 #[.pointer (some ⟨x,0,none⟩),.agg #[.int .i64 i,.int .i64 g]] w fun e w'=>aD w w'∧∃ gS,SA=some ⟨gS,0,none⟩∧e=.returned (.pointer (some ⟨gS,i*3,none⟩)):=by
 obtain ⟨gS,rfl,-,rV,nD,k0,k1,-,-⟩:=h.slot hi
 replace k0:w.cell? ⟨gS,i*3,none⟩=some (.int .i64 (g:Int)):=k0
 replace k1:w.cell? ⟨gS,i*3+1,none⟩=some (.bool true):=k1
 have a2:w.cell? ⟨x,2,none⟩=some (.slice (some ⟨gS,0,none⟩) sl.length cS):=h.blk.cell 2
 have j0:=(List.getElem?_eq_some_iff.1 hi).1
 have Ec:=h.oS.cap
 have hE:=aA (aD.alloc w (.cells #[.int .i64 (i:Int),.int .i64 (g:Int)] 186))
 have hB:=aL.new w 186 #[.int .i64 (i:Int),.int .i64 (g:Int)]
 have e0:=hB.cell 0
 have e1:=hB.cell 1
 replace e0:(w.alloc (.cells #[.int .i64 (i:Int),.int .i64 (g:Int)] 186)).cell? ⟨w.heap.size,0,none⟩=some (.int .i64 (i:Int)):=e0
 replace e1:(w.alloc (.cells #[.int .i64 (i:Int),.int .i64 (g:Int)] 186)).cell? ⟨w.heap.size,1,none⟩=some (.int .i64 (g:Int)):=e1
 have a2:=hE.out.cell a2
 have k0:=hE.out.cell k0
 have k1:=hE.out.cell k1
 clear h hi hB
 go_enter Tryz.func159,Tryz.ntmps159
 go_upto_region 1 with fail
 generalize w.alloc (.cells #[.int .i64 (i:Int),.int .i64 (g:Int)] 186)=w1 at *
 generalize w.heap.size=gr at *
 have E0:=aA e0;have E1:=aA e1;have A2:=aA a2;have K0:=aA k0;have K1:=aA k1
 have e0:=aB e0;have a2:=aB a2
 have eQ:¬ ((i:Int)<0):=by omega
 refine aC 13 (by kernel_rfl) (by kernel_rfl) (by kernel_rfl) ?_
 iterate 13
  refine aK (by kernel_rfl) (by kernel_rfl) ?_
  apply Exists.intro
  refine ⟨fun w1 aT=>?_,fun K hK=>?_⟩
  ·go_simp;first | done | rfl
  go_simp;refine hK _ _ ?_;clear hK K
 refine aH ⟨rfl,by kernel_rfl,fun wq hwq=>?_⟩
 simp only [bL]
 refine wpList_nil ?_
 have X1:=aA hwq
 clear e0 a2 k0 k1 e1 hwq
 go_upto_region 3 with fail
 have e0:=aB (X1.out.cell E0.out);have a2:=aB (X1.out.cell A2.out)
 refine aC 8 (by kernel_rfl) (by kernel_rfl) (by kernel_rfl) ?_
 iterate 8
  refine aK (by kernel_rfl) (by kernel_rfl) ?_
  apply Exists.intro
  refine ⟨fun w1 aT=>?_,fun K hK=>?_⟩
  ·go_simp;first | done | rfl
  go_simp;refine hK _ _ ?_;clear hK K
 refine aH ⟨rfl,by kernel_rfl,fun wq hwq=>?_⟩
 simp only [bL]
 refine wpList_nil ?_
 have X2:=aA (X1.out.trans hwq)
 clear e0 a2 hwq
 go_upto_region 4 with fail
 have k1:=aB (X2.out.cell K1.out);have k0:=aB (X2.out.cell K0.out);have e1:=aB (X2.out.cell E1.out)
 refine aC 13 (by kernel_rfl) (by kernel_rfl) (by kernel_rfl) ?_
 iterate 13
  refine aK (by kernel_rfl) (by kernel_rfl) ?_
  apply Exists.intro
  refine ⟨fun w1 aT=>?_,fun K hK=>?_⟩
  ·go_simp;first | done | rfl
  go_simp;refine hK _ _ ?_;clear hK K
 refine aH ⟨rfl,by kernel_rfl,fun wq hwq=>?_⟩
 simp only [bL]
 refine wpList_nil ?_
 have X3:=aA (X2.out.trans hwq)
 clear k1 k0 e1 hwq
 go_wp2_with fail
 go_ret
 exact ⟨hE.out.trans X3.out,rfl⟩
def δ (w:World) (B:Nat→Prop) (x most:Nat) (sl:List (fZ Value)) (free:List Nat) (live:Nat) (w':World):Prop:=∃ B',t0 w' B' x most sl free live∧(∀ b,B' b→B b∨w.heap.size≤b)∧aF B w w'
section
variable {w w':World} {B C:Nat→Prop} {x most:Nat} {SA:Option Addr} {cS:Nat} {FA:Option Addr} {cF:Nat} {sl:List (fZ Value)} {free:List Nat} {live:Nat}
theorem dA.set2 {gS i g:Nat} {o0 o:Option Value} (h:dA w B x most (some ⟨gS,0,none⟩) cS FA cF sl free live) (hi:sl[i]?=some (g,o0)):dA ((w.setCell ⟨gS,i*3+1,none⟩ (.bool o.isSome)).setCell ⟨gS,i*3+2,none⟩ (o.getD (.int .i64 0))) B x most (some ⟨gS,0,none⟩) cS FA cF (sl.set i (g,o)) free live:=by
 obtain ⟨cs,hb⟩ : ∃ cs,aL w gS 254 cs:=by
  rcases h.oS.own.2 with ⟨h3,_⟩ | ⟨g',cap,cur,h3,_,h4,_⟩
  ·cases h3
  ·injection h3 with h3 _ _
   injection h3 with h3
   injection h3 with h3
   subst h3
   exact ⟨cur,h4⟩
 have hx:x≠gS:=fun e=>by
  subst e
  exact dF h.oS.own h.blk (by decide) rfl
 have oY:=hb.set_ (i*3+1) (.bool o.isSome)
 have e:=z8 sl i (g,o)
 have e2:(nF sl).set (i*3) (.int .i64 (g:Int))=nF sl:=Sx (x:=(g,o0)) hi
 dsimp only at e
 rw [e2] at e
 refine ⟨?_,?_,(h.oF.far hb (by decide) _ _).far oY (by decide) _ _,h.inB⟩
 ·rw [List.length_set];exact (h.blk.far (p:=⟨gS,i*3+1,none⟩) hx _).far (p:=⟨gS,i*3+2,none⟩) hx _
 ·rw [List.length_set,← e];exact (h.oS.put _ _).put _ _
theorem dA.push {w8:World} {A8:Option Addr} {c8 k:Nat} (h:dA w B x most SA cS FA cF sl free live) (own8:aJ w8 C 3 1 (free.length+1) (.slice A8 (free.length+1) c8) (hZ free ++ [.int .i64 (k:Int)])) (hC:∀ b,B b→C b) (G8:w.grownBy w8 (Value.slice FA free.length cF).ownBlock) :
 dA (w8.setCell ⟨x,3,none⟩ (.slice A8 (free.length+1) c8)) C x most SA cS A8 c8 sl (free ++ [k]) live:=by
 have fQ:=h.blk.grown G8 (aN h.oF.own h.blk (by decide))
 have zgx:=h.oS.grown h.oF.own (by decide) G8
 refine ⟨?_,(zgx.mono hC).far fQ (by decide) 3 _,?_,hC _ h.inB⟩
 ·rw [List.length_append]
  exact fQ.set_ 3 (.slice A8 (free.length+1) c8)
 ·rw [List.length_append,show hZ (free ++ [k])=hZ free ++ [.int .i64 (k:Int)] by simp [hZ]]
  exact own8.far fQ (by decide) 3 _
theorem dA.grow {w8:World} {A8:Option Addr} {c8:Nat} (h:dA w B x most SA cS FA cF sl free live) (own8:aJ w8 C 254 3 (sl.length+1) (.slice A8 (sl.length+1) c8) (nF sl ++ [.int .i64 0,.bool false,.int .i64 0])) (hC:∀ b,B b→C b) (G8:w.grownBy w8 (Value.slice SA sl.length cS).ownBlock) :
 dA (w8.setCell ⟨x,2,none⟩ (.slice A8 (sl.length+1) c8)) C x most A8 c8 FA cF (sl ++ [(0,none)]) free live:=by
 have fQ:=h.blk.grown G8 (aN h.oS.own h.blk (by decide))
 have zfF:=h.oF.grown h.oS.own (by decide) G8
 refine ⟨?_,?_,(zfF.mono hC).far fQ (by decide) 2 _,hC _ h.inB⟩
 ·rw [List.length_append]
  exact fQ.set_ 2 (.slice A8 (sl.length+1) c8)
 ·rw [List.length_append,Ly]
  exact own8.far fQ (by decide) 2 _
end
set_option maxRecDepth 100000 in
set_option maxHeartbeats 1000000 in
theorem Jp {w:World} {B:Nat→Prop} {x most:Nat} {sl:List (fZ Value)} {free:List Nat} {live:Nat} (h:t0 w B x most sl free live) {i g:Nat} {v:Value} (hi:sl[i]?=some (g,some v)) (hg:g<1073741824) :
 Calls Tryz.prog 153 #[.pointer (some ⟨x,0,none⟩),.agg #[.int .i64 i,.int .i64 g]] w fun e w'=>e=.returned (.int .i64 0)∧δ w B x most (sl.set i (g,none)) (free ++ [i]) (live - 1) w':=by
 obtain ⟨SA,cS,FA,cF,h1⟩:=h.mem
 obtain ⟨gS,rfl,hgB,rV,nD,-,-,-,-⟩:=h1.slot hi
 have j0:=(List.getElem?_eq_some_iff.1 hi).1
 obtain ⟨vX,-,pZ⟩:=h.ok.give hi
 have yB:free.length+live≤1048576:=by have:=h.ok.live;have:=h.ok.len;have:=h.mm;omega
 have hE:=aA (aD.alloc w (.cells #[.int .i64 (i:Int),.int .i64 (g:Int)] 186))
 have Cz:=aA (aL.new w 186 #[.int .i64 (i:Int),.int .i64 (g:Int)])
 have H1:=aA (h1.ext hE.out)
 have HF:=aA (Pt (h1.ext hE.out) hi)
 have e0:(w.alloc (.cells #[.int .i64 (i:Int),.int .i64 (g:Int)] 186)).cell? ⟨w.heap.size,0,none⟩=some (.int .i64 (i:Int)):=Cz.out.cell 0
 have e1:(w.alloc (.cells #[.int .i64 (i:Int),.int .i64 (g:Int)] 186)).cell? ⟨w.heap.size,1,none⟩=some (.int .i64 (g:Int)):=Cz.out.cell 1
 have HI:=aA hi;have rZ:=aA h.lt;have xK:=aA vX;have Dt:=h.mm
 have zJ:=aA (fun j=>(show aX (sl.set i (g,none)) j≤1073741824 by
  rw [kV j0]
  split
  ·omega
  ·exact h.gen j))
 have jQ:=aA (And.intro h1.inB hgB)
 clear h h1 hi vX
 go_enter Tryz.func153,Tryz.ntmps153
 go_upto_region 4 with ((with_reducible refine HF.out.mono ?_);rintro e w1 ⟨x1,g0,kY,rfl⟩;obtain rfl:gS=g0:=(by injection kY with kY;injection kY);have X1:=aA x1;clear x1 kY)
 clear e0 e1 HF
 have H2:=aA (H1.out.ext X1.out)
 have HR:=aA (Cz.out.ext X1.out)
 have HX:=aA (hE.out.trans X1.out)
 have Wx:gS≠w.heap.size:=by omega
 clear H1 X1 Cz hE
 obtain ⟨g5,eg,-,-,-,k0,k1,k2,kf⟩:=H2.out.slot HI.out
 obtain rfl:gS=g5:=(by injection eg with eg;injection eg)
 replace k1:w1.cell? ⟨gS,i*3+1,none⟩=some (.bool true):=k1
 replace k2:w1.cell? ⟨gS,i*3+2,none⟩=some v:=k2
 have f1:=kf (i*3+1);have f2:=kf (i*3+2)
 have x4:w1.cell? ⟨x,4,none⟩=some (.int .i64 live):=H2.out.blk.cell 4
 have fx:w1.frozen? ⟨x,4,none⟩=false:=H2.out.blk.frozen 4
 have zb2:=Ne.symm rV
 have ν:((live - 1:Nat):Int)=(live:Int) - 1:=by omega
 clear k0 kf eg
 go_upto_region 7 with fail
 have H3:=aA ((H2.out.set2 HI.out (o:=none)).setX (live - 1) ((live:Int) - 1) ν.symm)
 have qu:=aA ((((aF.of HX.out:aF B w w1).setCell (p:=⟨gS,i*3+1,none⟩) (.inl jQ.out.2) (.bool false)).setCell (p:=⟨gS,i*3+2,none⟩) (.inl jQ.out.2) (.int .i64 0)).setCell (p:=⟨x,4,none⟩) (.inl jQ.out.1) (.int .i64 ((live:Int) - 1)))
 have HRn:=aA (show ¬ B w.heap.size from fun hb=>by have:=rZ.out _ hb;omega)
 have zbV:=aA (((HR.out.far (p:=⟨gS,i*3+1,none⟩) (Ne.symm Wx) (.bool false)).far (p:=⟨gS,i*3+2,none⟩) (Ne.symm Wx) (.int .i64 0)).far (p:=⟨x,4,none⟩) (fun e=>HRn.out (by rw [e];exact jQ.out.1)) (.int .i64 ((live:Int) - 1)))
 dsimp only [Option.isSome,Option.getD] at H3
 clear k1 k2 f1 f2 x4 fx zb2 H2 HR HX
 generalize ((w1.setCell ⟨gS,i*3+1,none⟩ (.bool false)).setCell ⟨gS,i*3+2,none⟩ (.int .i64 0)).setCell ⟨x,4,none⟩ (.int .i64 ((live:Int) - 1))=w3 at *
 have zcZ:(sl.set i (g,none))[i]?=some (g,none):=List.getElem?_set_self j0
 obtain ⟨g6,eg,-,-,-,k0,-,-,-⟩:=H3.out.slot zcZ
 obtain rfl:gS=g6:=(by injection eg with eg;injection eg)
 replace k0:w3.cell? ⟨gS,i*3,none⟩=some (.int .i64 (g:Int)):=k0
 have x1:w3.cell? ⟨x,1,none⟩=some (.int .i64 1073741824):=H3.out.blk.cell 1
 have wS:(g:Int)<1073741824:=by omega
 have k0:=aB k0
 have x1:=aB x1
 clear eg zcZ
 refine aC 9 (by kernel_rfl) (by kernel_rfl) (by kernel_rfl) ?_
 iterate 9
  refine aK (by kernel_rfl) (by kernel_rfl) ?_
  apply Exists.intro
  refine ⟨fun w1 aT=>?_,fun K hK=>?_⟩
  ·go_simp;first | done | rfl
  go_simp;refine hK _ _ ?_;clear hK K
 refine aH ⟨rfl,by kernel_rfl,fun wq hwq=>?_⟩
 simp only [bL]
 refine wpList_nil ?_
 clear k0 x1
 have H4:=aA (H3.out.ext hwq);have vq:=aA (qu.out.trans' (aF.of hwq));have zdl:=aA (zbV.out.ext hwq)
 clear hwq H3 qu zbV
 have r0:wq.cell? ⟨w.heap.size,0,none⟩=some (.int .i64 (i:Int)):=zdl.out.cell 0
 have x3:wq.cell? ⟨x,3,none⟩=some (.slice FA free.length cF):=H4.out.blk.cell 3
 go_upto_region 8 with fail
 have r0:=aB r0
 have x3:=aB x3
 refine mJ 8 (by kernel_rfl) (by kernel_rfl) (by kernel_rfl) ?_
 refine ⟨_,_,?_,rfl,?_⟩;rotate_left
 refine ⟨⟨by kernel_rfl,fun w9=>?_⟩,fun _ _ _ h=>h,fun K hK=>?_⟩
 ·go_simp;first | done | rfl
 go_simp;refine hK _ _ ?_;clear hK K
 iterate 6
  refine aK (by kernel_rfl) (by kernel_rfl) ?_
  apply Exists.intro
  refine ⟨fun w1 aT=>?_,fun K hK=>?_⟩
  ·go_simp;first | done | rfl
  go_simp;refine hK _ _ ?_;clear hK K
 refine cU [] (fun u w1=>∃ gb,u=.slice (some ⟨gb,0,none⟩) 1 1∧aL w1 gb 3 #[.int .i64 (i:Int)]) (fun u w1 w2 _ h2 ⟨gb,h3,h4⟩=>⟨gb,h3,h4.ext h2⟩) rfl (by kernel_rfl) (fun w1 aT=>?_) ?_
 ·simp only [cN]
  go_simp
  exact ⟨aD.alloc _ _,aL.new _ _ _⟩
 refine aH ⟨rfl,by kernel_rfl,fun w5 hw5=>?_⟩
 simp only [bL]
 rintro _ ⟨gb,rfl,hgb⟩
 simp only [List.drop]
 clear r0 x3
 have H5:=aA (H4.out.ext hw5);have Tn:=aA (vq.out.trans' (aF.of hw5))
 have HS:=aA (show Sl w5 (some ⟨gb,0,none⟩) 1 1 [.int .i64 (i:Int)] from hgb.sl rfl)
 have dG:=aA (show aQ [Value.int .i64 (i:Int)] from fun v hv=>by simp at hv;rw [hv];rfl)
 have iZ:=aA Tn.out.size
 clear hgb hw5 H4 vq zdl
 obtain ⟨i0,eQ,hz0,hz1,eO⟩:=info_parts rB
 go_wp2_with (at_builtin;refine aI rfl (.tmp 39) (.tmp 42) _ rfl B 3 i0 _ 1 8 Tryz.underlying23 eQ hz0 hz1 eO rfl (by omega) (.slice FA free.length cF) free.length (hZ free) rfl H5.out.oF _ 1 1 _ rfl HS.out dG.out (by unfold maxLen;omega) (by omega) ?_;intro A8 c8 w8 own8 G8 C8;have fQ:=H5.out.blk.grown G8.out (aN H5.out.oF.own H5.out.blk (by decide));have f8:=fQ.frozen 3;have v8:=fQ.cell 3;clear fQ)
 go_ret
 have hp:=H5.out.push (k:=i) own8.out (fun b hb=>.inl hb) G8.out
 have hC:=(Tn.out.trans' C8.out).setCell (p:=⟨x,3,none⟩) (.inl jQ.out.1) (.slice A8 (free.length+1) c8)
 refine ⟨rfl,fun b=>(B b∨b=w5.heap.size)∧b<(w8.setCell ⟨x,3,none⟩ (.slice A8 (free.length+1) c8)).heap.size,⟨⟨_,_,_,_,⟨hp.blk,⟨hp.oS.own,fun g hg=>⟨hp.oS.inB g hg,hp.oS.lt g hg⟩⟩,⟨hp.oF.own,fun g hg=>⟨hp.oF.inB g hg,hp.oF.lt g hg⟩⟩,hp.inB,hp.blk.lt⟩⟩,xK.out,fun b hb=>hb.2,Dt,zJ.out⟩,fun b hb=>?_,hC⟩
 rcases hb.1 with hb | hb
 ·exact .inl hb
 ·right;have:=iZ.out;omega
structure sS (most:Nat) (sl:List (fZ Value)) (free:List Nat) (v:Value) (i:Nat) (sl':List (fZ Value)) (free':List Nat):Prop where
 fs:fJ most sl free=i :: fJ most sl' free'
 th:∀ j,oV sl' j=if j=i then some v else oV sl j
 ge:∀ j,aX sl' j=if j=i then aX sl i+1 else aX sl j
theorem dA.to {w:World} {B:Nat→Prop} {x most:Nat} {SA:Option Addr} {cS:Nat} {FA:Option Addr} {cF:Nat} {sl:List (fZ Value)} {free:List Nat} {live:Nat} (h:dA w B x most SA cS FA cF sl free live):dA w (fun b=>B b∧b<w.heap.size) x most SA cS FA cF sl free live:=
 ⟨h.blk,⟨h.oS.own,fun g hg=>⟨h.oS.inB g hg,h.oS.lt g hg⟩⟩,⟨h.oF.own,fun g hg=>⟨h.oF.inB g hg,h.oF.lt g hg⟩⟩,h.inB,h.blk.lt⟩
theorem dA.far0 {w:World} {B:Nat→Prop} {x most:Nat} {SA:Option Addr} {cS:Nat} {FA:Option Addr} {cF:Nat} {sl:List (fZ Value)} {free:List Nat} {live b:Nat} {cs:Array Value} (h:dA w B x most SA cS FA cF sl free live) (hb:aL w b 186 cs) (j:Nat) (u:Value):dA (w.setCell ⟨b,j,none⟩ u) B x most SA cS FA cF sl free live:=
 ⟨h.blk.far (p:=⟨b,j,none⟩) (fun e=>by have h1:=h.blk;rw [← show x=b from e] at hb;have h2:=hb.symm.trans h1;injection h2 with h2;injection h2 with _ h2;revert h2;decide) u,h.oS.far hb (by decide) j u,h.oF.far hb (by decide) j u,h.inB⟩
theorem jJ {l:List (fZ Value)} {i g:Nat} {o:Option Value} (h:l[i]?=some (g,o)):aX l i=g:=by unfold aX;rw [h];rfl
set_option maxRecDepth 100000 in
set_option maxHeartbeats 1000000 in
theorem Dj {w:World} {B:Nat→Prop} {x most:Nat} {sl:List (fZ Value)} {free:List Nat} {i live:Nat} {vk:Int} (h:t0 w B x most sl (free ++ [i]) live)  (hg:∀ i,aX sl i<1073741824) :
 Calls Tryz.prog 156 #[.pointer (some ⟨x,0,none⟩),(.int .i64 vk)] w fun e w'=>∃ s sl' free',sS most sl (free ++ [i]) (.int .i64 vk) s sl' free'∧e=.returned (.tuple #[.agg #[.int .i64 s,.int .i64 ((aX sl s:Nat)+1:Int)],.int .i64 0])∧δ w B x most sl' free' (live+1) w':=by
 obtain ⟨SA,cS,FA,cF,h1⟩:=h.mem
 have yB:((free ++ [i]):List Nat).length+live≤1048576:=by have:=h.ok.live;have:=h.ok.len;have:=h.mm;omega
 have Yv:sl.length≤1048576:=by have:=h.ok.len;have:=h.mm;omega
 have hE:=aA (aD.alloc w (.cells #[.int .i64 0,.int .i64 0] 186))
 have Cz:=aA (aL.new w 186 #[.int .i64 0,.int .i64 0])
 have H1:=aA (h1.ext hE.out)
 have rZ:=aA h.lt;have xK:=aA h.ok;have Dt:=h.mm;have zJ:=aA h.gen;have HG:=aA hg
 have y6:=aA h1.inB
 have Wy:x≠w.heap.size:=fun e=>by have:=h.lt x h1.inB;omega
 obtain ⟨g,wS⟩:=(h.ok.dead i).1 (by simp)
 have j0:=(List.getElem?_eq_some_iff.1 wS).1
 have nD:(g:Int)<1073741824:=by have:=hg i;rw [jJ wS] at this;omega
 have zfZ:(0:Int)<((free ++ [i]).length:Int):=by simp
 have zfS:((free ++ [i]).length:Int) - 1=(free.length:Int):=by simp
 have zed:IntKind.i64.wrap (free.length:Int)=(free.length:Int):=IntWalk.i64_in _ (by simp at yB;omega)
 have zbq:(free.length:Int)<(free.length:Int)+1:=by omega
 have zbR:(free ++ [i]).length=free.length+1:=by simp
 obtain ⟨gF,hgF,hFB,hFlt,hFc,hFf⟩:=h1.oF.at_ (by simp)
 have zc7:(hZ (free ++ [i]))[free.length]?=some (.int .i64 (i:Int)):=by simp [hZ]
 obtain rfl:=hgF
 have c1:(w.alloc (.cells #[.int .i64 0,.int .i64 0] 186)).cell? ⟨gF,free.length,none⟩=some (.int .i64 (i:Int)):=hE.out.cell (hFc _ _ zc7)
 have x2:(w.alloc (.cells #[.int .i64 0,.int .i64 0] 186)).cell? ⟨x,2,none⟩=some (.slice SA sl.length cS):=H1.out.blk.cell 2
 have x3:(w.alloc (.cells #[.int .i64 0,.int .i64 0] 186)).cell? ⟨x,3,none⟩=some (.slice (some ⟨gF,0,none⟩) (free ++ [i]).length cF):=H1.out.blk.cell 3
 have Ec:=h1.oF.cap
 rw [zbR] at Ec zfZ zfS x3
 have G_:free.length≤cF:=by omega
 clear h h1 hg hFc hFf zc7
 go_enter Tryz.func156,Tryz.ntmps156
 go_upto_region 4 with fail
 generalize w.alloc (.cells #[.int .i64 0,.int .i64 0] 186)=w1 at *
 have c1:=aB c1;have x3:=aB x3
 refine aC 13 (by kernel_rfl) (by kernel_rfl) (by kernel_rfl) ?_
 iterate 13
  refine aK (by kernel_rfl) (by kernel_rfl) ?_
  apply Exists.intro
  refine ⟨fun w1 aT=>?_,fun K hK=>?_⟩
  ·go_simp;first | done | rfl
  go_simp;refine hK _ _ ?_;clear hK K
 refine aH ⟨rfl,by kernel_rfl,fun wq hwq=>?_⟩
 simp only [bL]
 refine wpList_nil ?_
 have X1:=aA hwq
 clear c1 x3
 have H2:=aA (H1.out.ext X1.out)
 have x3:wq.cell? ⟨x,3,none⟩=some (.slice (some ⟨gF,0,none⟩) (free.length+1) cF):=by have:=H2.out.blk.cell 3;rw [zbR] at this;exact this
 have x3:=aB x3
 clear hwq
 go_upto_region 5 with fail
 refine aC 14 (by kernel_rfl) (by kernel_rfl) (by kernel_rfl) ?_
 iterate 14
  refine aK (by kernel_rfl) (by kernel_rfl) ?_
  apply Exists.intro
  refine ⟨fun w1 aT=>?_,fun K hK=>?_⟩
  ·go_simp;first | done | rfl
  go_simp;refine hK _ _ ?_;clear hK K
 refine aH ⟨rfl,by kernel_rfl,fun w5 hw5=>?_⟩
 simp only [bL,List.drop]
 clear x3
 have X5:=aA (X1.out.trans hw5)
 have H5:=aA (H2.out.ext hw5)
 have f3:w5.frozen? ⟨x,3,none⟩=false:=H5.out.blk.frozen 3
 have x3:w5.cell? ⟨x,3,none⟩=some (.slice (some ⟨gF,0,none⟩) (free.length+1) cF):=by have:=H5.out.blk.cell 3;rw [zbR] at this;exact this
 clear hw5 H2 X1
 go_upto_region 8 with fail
 have H6:=aA H5.out.pop
 have Fc:=aA ((aF.of (hE.out.trans X5.out):aF B w w5).setCell (p:=⟨x,3,none⟩) (.inl y6.out) (.slice (some ⟨gF,0,none⟩) free.length cF))
 have Po:=aA ((Cz.out.ext X5.out).far (p:=⟨x,3,none⟩) (Ne.symm Wy) (.slice (some ⟨gF,0,none⟩) free.length cF))
 have Uw:=aA (show ∀ b,B b→B b∨w.heap.size≤b from fun b hb=>.inl hb)
 have HI:=aA wS
 have Ad:=aA (show sS most sl (free ++ [i]) (.int .i64 vk) i (sl.set i (g+1,some (.int .i64 vk))) free∧aX sl i=g∧mH most (sl.set i (g+1,some (.int .i64 vk))) free (live+1) from ⟨⟨(xK.out.take1 wS (.int .i64 vk)).2,fun j=>uQ j0,fun j=>by rw [kV j0,jJ wS]⟩,jJ wS,(xK.out.take1 wS (.int .i64 vk)).1⟩)
 clear f3 x3 wS H5 X5 Cz H1 x2
 generalize w5.setCell ⟨x,3,none⟩ (.slice (some ⟨gF,0,none⟩) free.length cF)=w6 at *
 obtain ⟨gS,rfl,hgC,rV,hgS,k0,k1,k2,kf⟩:=H6.out.slot HI.out
 replace k0:w6.cell? ⟨gS,i*3,none⟩=some (.int .i64 (g:Int)):=k0
 replace k1:w6.cell? ⟨gS,i*3+1,none⟩=some (.bool false):=k1
 replace k2:w6.cell? ⟨gS,i*3+2,none⟩=some (.int .i64 0):=k2
 have Px:w.heap.size≠gS:=fun e=>dF H6.out.oS.own Po.out (by decide) (by rw [← e];rfl)
 have f0:=kf (i*3);have f1:=kf (i*3+1);have f2:=kf (i*3+2)
 have x2:w6.cell? ⟨x,2,none⟩=some (.slice (some ⟨gS,0,none⟩) sl.length cS):=H6.out.blk.cell 2
 have x4:w6.cell? ⟨x,4,none⟩=some (.int .i64 live):=H6.out.blk.cell 4
 have fx:w6.frozen? ⟨x,4,none⟩=false:=H6.out.blk.frozen 4
 have Zi:=H6.out.oS.cap
 have T_:=(List.getElem?_eq_some_iff.1 HI.out).1
 have zb2:=Ne.symm rV
 clear kf
 go_upto_region 12 with fail
 have Nv:((g+1:Nat):Int)=(g:Int)+1:=rfl
 have H7:=aA ((H6.out.set3 (i:=i) (g+1,some (.int .i64 vk))).setX (live+1) ((live:Int)+1) rfl)
 dsimp only [Option.isSome,Option.getD] at H7
 rw [Nv] at H7
 have sZ:=Uw.out _ hgC
 have zbX:=aA ((((Fc.out.setCell (p:=⟨gS,i*3,none⟩) sZ (.int .i64 ((g:Int)+1))).setCell (p:=⟨gS,i*3+1,none⟩) sZ (.bool true)).setCell (p:=⟨gS,i*3+2,none⟩) sZ (.int .i64 vk)).setCell (p:=⟨x,4,none⟩) (.inl y6.out) (.int .i64 ((live:Int)+1)))
 have qU:=aA ((((Po.out.far (p:=⟨gS,i*3,none⟩) Px (.int .i64 ((g:Int)+1))).far (p:=⟨gS,i*3+1,none⟩) Px (.bool true)).far (p:=⟨gS,i*3+2,none⟩) Px (.int .i64 vk)).far (p:=⟨x,4,none⟩) (Ne.symm Wy) (.int .i64 ((live:Int)+1)))
 clear k0 k1 k2 f0 f1 f2 x2 x4 fx H6 Po Fc
 generalize (((w6.setCell ⟨gS,i*3,none⟩ (.int .i64 ((g:Int)+1))).setCell ⟨gS,i*3+1,none⟩ (.bool true)).setCell ⟨gS,i*3+2,none⟩ (.int .i64 vk)).setCell ⟨x,4,none⟩ (.int .i64 ((live:Int)+1))=w7 at *
 have zbh:(sl.set i (g+1,some (.int .i64 vk)))[i]?=some (g+1,some (.int .i64 vk)):=List.getElem?_set_self T_
 obtain ⟨g6,eg,-,-,-,k0,-,-,-⟩:=H7.out.slot zbh
 obtain rfl:gS=g6:=(by injection eg with eg;injection eg)
 replace k0:w7.cell? ⟨gS,i*3,none⟩=some (.int .i64 ((g:Int)+1)):=k0
 have r0:w7.cell? ⟨w.heap.size,0,none⟩=some (.int .i64 0):=qU.out.cell 0
 have r1:w7.cell? ⟨w.heap.size,1,none⟩=some (.int .i64 0):=qU.out.cell 1
 have q0:w7.frozen? ⟨w.heap.size,0,none⟩=false:=qU.out.frozen 0
 have q1:w7.frozen? ⟨w.heap.size,1,none⟩=false:=qU.out.frozen 1
 clear eg
 go_wp2_with fail
 have s0:((w7.setCell ⟨w.heap.size,0,none⟩ (.int .i64 i)).setCell ⟨w.heap.size,1,none⟩ (.int .i64 ((g:Int)+1))).cell? ⟨w.heap.size,0,none⟩=some (.int .i64 i):=((qU.out.set_ 0 (.int .i64 i)).set_ 1 (.int .i64 ((g:Int)+1))).cell 0
 have s1:((w7.setCell ⟨w.heap.size,0,none⟩ (.int .i64 i)).setCell ⟨w.heap.size,1,none⟩ (.int .i64 ((g:Int)+1))).cell? ⟨w.heap.size,1,none⟩=some (.int .i64 ((g:Int)+1)):=((qU.out.set_ 0 (.int .i64 i)).set_ 1 (.int .i64 ((g:Int)+1))).cell 1
 refine bodyPost_ret (v:=.tuple #[.agg #[.int .i64 i,.int .i64 ((g:Int)+1)],.int .i64 0]) (by simp [results,Tryz.results156,go_sem,s0,s1]) rfl ?_
 have H8:=((H7.out.far0 qU.out 0 (.int .i64 i)).far0 (qU.out.set_ 0 (.int .i64 i)) 1 (.int .i64 ((g:Int)+1))).to
 have zaZ:=(zbX.out.setCell (p:=⟨w.heap.size,0,none⟩) (.inr (Nat.le_refl _)) (.int .i64 i)).setCell (p:=⟨w.heap.size,1,none⟩) (.inr (Nat.le_refl _)) (.int .i64 ((g:Int)+1))
 have HT:=Ad.out
 refine ⟨i,_,_,HT.1,by rw [HT.2.1],_,⟨⟨_,_,_,_,H8⟩,HT.2.2,fun b hb=>hb.2,Dt,fun j=>?_⟩,fun b hb=>Uw.out b hb.1,zaZ⟩
 have h9:=HT.1.ge j
 rw [h9]
 split
 ·have:=HG.out i;omega
 ·exact zJ.out j
set_option maxRecDepth 100000 in
set_option maxHeartbeats 1000000 in
theorem Dm {w:World} {B:Nat→Prop} {x most:Nat} {sl:List (fZ Value)} {live:Nat} {vk:Int} (h:t0 w B x most sl [] live) (hn:sl.length<most) (hg:∀ i,aX sl i<1073741824) :
 Calls Tryz.prog 156 #[.pointer (some ⟨x,0,none⟩),(.int .i64 vk)] w fun e w'=>∃ s sl' free',sS most sl [] (.int .i64 vk) s sl' free'∧e=.returned (.tuple #[.agg #[.int .i64 s,.int .i64 ((aX sl s:Nat)+1:Int)],.int .i64 0])∧δ w B x most sl' free' (live+1) w':=by
 obtain ⟨SA,cS,FA,cF,h1⟩:=h.mem
 have yB:([] : List Nat).length+live≤1048576:=by have:=h.ok.live;have:=h.ok.len;have:=h.mm;omega
 have Yv:sl.length≤1048576:=by have:=h.ok.len;have:=h.mm;omega
 have hE:=aA (aD.alloc w (.cells #[.int .i64 0,.int .i64 0] 186))
 have Cz:=aA (aL.new w 186 #[.int .i64 0,.int .i64 0])
 have H1:=aA (h1.ext hE.out)
 have rZ:=aA h.lt;have xK:=aA h.ok;have Dt:=h.mm;have zJ:=aA h.gen;have HG:=aA hg
 have y6:=aA h1.inB
 have Wy:x≠w.heap.size:=fun e=>by have:=h.lt x h1.inB;omega
 have j0:¬ (0:Int)<(([] : List Nat).length:Int):=by simp
 have Lm:(sl.length:Int)<(most:Int):=by omega
 have x0:(w.alloc (.cells #[.int .i64 0,.int .i64 0] 186)).cell? ⟨x,0,none⟩=some (.int .i64 most):=H1.out.blk.cell 0
 have x2:(w.alloc (.cells #[.int .i64 0,.int .i64 0] 186)).cell? ⟨x,2,none⟩=some (.slice SA sl.length cS):=H1.out.blk.cell 2
 have x3:(w.alloc (.cells #[.int .i64 0,.int .i64 0] 186)).cell? ⟨x,3,none⟩=some (.slice FA 0 cF):=H1.out.blk.cell 3
 have HN:=aA hn
 clear h h1 hg
 go_enter Tryz.func156,Tryz.ntmps156
 go_upto_region 7 with fail
 generalize aT:w.alloc (.cells #[.int .i64 0,.int .i64 0] 186)=w1 at *
 have sQ:=aA (hE.out.size)
 clear aT
 have HS:=aA (show Sl (w1.alloc (.cells #[.int .i64 0,.bool false,.int .i64 0] 254)) (some ⟨w1.heap.size,0,none⟩) 1 3 [.int .i64 0,.bool false,.int .i64 0] from (aL.new w1 _ _).sl rfl)
 have dG:=aA (show aQ [Value.int .i64 0,.bool false,.int .i64 0] from fun v hv=>by simp at hv;rcases hv with hv | hv | hv <;> rw [hv] <;> rfl)
 have HO:=aA (H1.out.ext (aD.alloc w1 (.cells #[.int .i64 0,.bool false,.int .i64 0] 254)))
 have zaj:=aA (hE.out.trans (aD.alloc w1 (.cells #[.int .i64 0,.bool false,.int .i64 0] 254)))
 have dH:=aA (Cz.out.ext (aD.alloc w1 (.cells #[.int .i64 0,.bool false,.int .i64 0] 254)))
 obtain ⟨i0,eQ,hz0,hz1,eO⟩:=info_parts kw
 go_upto_region 8 with (at_builtin;refine aI rfl (.tmp 58) (.tmp 60) _ rfl B 254 i0 _ 3 24 Tryz.underlying201 eQ hz0 hz1 eO rfl (by omega) (.slice SA sl.length cS) sl.length (nF sl) rfl HO.out.oS _ 1 1 _ rfl HS.out dG.out (by unfold maxLen;omega) (by omega) ?_;intro A8 c8 w8 own8 G8 C8;have fQ:=(HO.out.blk.grown G8.out (aN HO.out.oS.own HO.out.blk (by decide)));have f8:=fQ.frozen 2;have v8:=fQ.cell 2;clear fQ)
 have zdE:=aA (dH.out.grown G8.out (aN HO.out.oS.own dH.out (by decide)))
 obtain ⟨i,hisl⟩ : ∃ i,i=sl.length:=⟨_,rfl⟩
 obtain ⟨g,kY⟩ : ∃ g:Nat,g=0:=⟨_,rfl⟩
 have nD:(g:Int)<1073741824:=by omega
 have HI:=aA (show (sl ++ [(g,none)])[i]?=some (g,none) by rw [hisl];simp)
 have zbw:i<(sl ++ [(g,(none:Option Value))]).length:=by rw [hisl];simp
 have Ad:=aA (show sS most sl [] (.int .i64 vk) i ((sl ++ [(g,none)]).set i (g+1,some (.int .i64 vk))) []∧aX sl i=g∧mH most ((sl ++ [(g,none)]).set i (g+1,some (.int .i64 vk))) [] (live+1) by
  have e9:(sl ++ [(g,(none:Option Value))]).set i (g+1,some (.int .i64 vk))=sl ++ [(1,some (.int .i64 vk))]:=by rw [hisl,kY];simp
  have e8:aX sl i=0:=by rw [hisl];simp [aX]
  rw [e9,kY,e8]
  exact ⟨⟨by rw [hisl];exact (xK.out.take2 HN.out (.int .i64 vk)).2,fun j=>by rw [Kf,hisl],fun j=>by rw [Eu,e8,hisl]⟩,rfl,(xK.out.take2 HN.out (.int .i64 vk)).1⟩)
 have H6:=aA (show dA (w8.setCell ⟨x,2,none⟩ (.slice A8 (sl.length+1) c8)) (fun b=>B b∨b=(w1.alloc (.cells #[.int .i64 0,.bool false,.int .i64 0] 254)).heap.size) x most A8 c8 FA cF (sl ++ [(g,none)]) [] live by rw [kY];exact HO.out.grow own8.out (fun b hb=>.inl hb) G8.out)
 have Fc:=aA (((aF.of zaj.out:aF B _ _).trans' C8.out).setCell (p:=⟨x,2,none⟩) (.inl y6.out) (.slice A8 (sl.length+1) c8))
 have Po:=aA (zdE.out.far (p:=⟨x,2,none⟩) (Ne.symm Wy) (.slice A8 (sl.length+1) c8))
 have Uw:=aA (show ∀ b,(B b∨b=(w1.alloc (.cells #[.int .i64 0,.bool false,.int .i64 0] 254)).heap.size)→B b∨w.heap.size≤b from fun b hb=>hb.imp id fun e=>by rw [e];exact zaj.out.size)
 have E_:(sl.length:Int)=(i:Int):=by rw [hisl]
 generalize w8.setCell ⟨x,2,none⟩ (.slice A8 (sl.length+1) c8)=w6 at *
 clear own8 G8 C8 f8 v8 x0 x2 x3 zdE dH zaj HO HS dG sQ H1 Cz hE
 rw [E_]
 generalize hSM:sl ++ [(g,(none:Option Value))]=sm at *
 clear hSM zbw E_ kY hisl Lm j0
 obtain ⟨gS,rfl,hgC,rV,hgS,k0,k1,k2,kf⟩:=H6.out.slot HI.out
 replace k0:w6.cell? ⟨gS,i*3,none⟩=some (.int .i64 (g:Int)):=k0
 replace k1:w6.cell? ⟨gS,i*3+1,none⟩=some (.bool false):=k1
 replace k2:w6.cell? ⟨gS,i*3+2,none⟩=some (.int .i64 0):=k2
 have Px:w.heap.size≠gS:=fun e=>dF H6.out.oS.own Po.out (by decide) (by rw [← e];rfl)
 have f0:=kf (i*3);have f1:=kf (i*3+1);have f2:=kf (i*3+2)
 have x2:w6.cell? ⟨x,2,none⟩=some (.slice (some ⟨gS,0,none⟩) sm.length c8):=H6.out.blk.cell 2
 have x4:w6.cell? ⟨x,4,none⟩=some (.int .i64 live):=H6.out.blk.cell 4
 have fx:w6.frozen? ⟨x,4,none⟩=false:=H6.out.blk.frozen 4
 have Zi:=H6.out.oS.cap
 have T_:=(List.getElem?_eq_some_iff.1 HI.out).1
 have zb2:=Ne.symm rV
 clear kf
 go_upto_region 12 with fail
 have Nv:((g+1:Nat):Int)=(g:Int)+1:=rfl
 have H7:=aA ((H6.out.set3 (i:=i) (g+1,some (.int .i64 vk))).setX (live+1) ((live:Int)+1) rfl)
 dsimp only [Option.isSome,Option.getD] at H7
 rw [Nv] at H7
 have sZ:=Uw.out _ hgC
 have zbX:=aA ((((Fc.out.setCell (p:=⟨gS,i*3,none⟩) sZ (.int .i64 ((g:Int)+1))).setCell (p:=⟨gS,i*3+1,none⟩) sZ (.bool true)).setCell (p:=⟨gS,i*3+2,none⟩) sZ (.int .i64 vk)).setCell (p:=⟨x,4,none⟩) (.inl y6.out) (.int .i64 ((live:Int)+1)))
 have qU:=aA ((((Po.out.far (p:=⟨gS,i*3,none⟩) Px (.int .i64 ((g:Int)+1))).far (p:=⟨gS,i*3+1,none⟩) Px (.bool true)).far (p:=⟨gS,i*3+2,none⟩) Px (.int .i64 vk)).far (p:=⟨x,4,none⟩) (Ne.symm Wy) (.int .i64 ((live:Int)+1)))
 clear k0 k1 k2 f0 f1 f2 x2 x4 fx H6 Po Fc
 generalize (((w6.setCell ⟨gS,i*3,none⟩ (.int .i64 ((g:Int)+1))).setCell ⟨gS,i*3+1,none⟩ (.bool true)).setCell ⟨gS,i*3+2,none⟩ (.int .i64 vk)).setCell ⟨x,4,none⟩ (.int .i64 ((live:Int)+1))=w7 at *
 have zbh:(sm.set i (g+1,some (.int .i64 vk)))[i]?=some (g+1,some (.int .i64 vk)):=List.getElem?_set_self T_
 obtain ⟨g6,eg,-,-,-,k0,-,-,-⟩:=H7.out.slot zbh
 obtain rfl:gS=g6:=(by injection eg with eg;injection eg)
 replace k0:w7.cell? ⟨gS,i*3,none⟩=some (.int .i64 ((g:Int)+1)):=k0
 have r0:w7.cell? ⟨w.heap.size,0,none⟩=some (.int .i64 0):=qU.out.cell 0
 have r1:w7.cell? ⟨w.heap.size,1,none⟩=some (.int .i64 0):=qU.out.cell 1
 have q0:w7.frozen? ⟨w.heap.size,0,none⟩=false:=qU.out.frozen 0
 have q1:w7.frozen? ⟨w.heap.size,1,none⟩=false:=qU.out.frozen 1
 clear eg
 go_wp2_with fail
 have s0:((w7.setCell ⟨w.heap.size,0,none⟩ (.int .i64 i)).setCell ⟨w.heap.size,1,none⟩ (.int .i64 ((g:Int)+1))).cell? ⟨w.heap.size,0,none⟩=some (.int .i64 i):=((qU.out.set_ 0 (.int .i64 i)).set_ 1 (.int .i64 ((g:Int)+1))).cell 0
 have s1:((w7.setCell ⟨w.heap.size,0,none⟩ (.int .i64 i)).setCell ⟨w.heap.size,1,none⟩ (.int .i64 ((g:Int)+1))).cell? ⟨w.heap.size,1,none⟩=some (.int .i64 ((g:Int)+1)):=((qU.out.set_ 0 (.int .i64 i)).set_ 1 (.int .i64 ((g:Int)+1))).cell 1
 refine bodyPost_ret (v:=.tuple #[.agg #[.int .i64 i,.int .i64 ((g:Int)+1)],.int .i64 0]) (by simp [results,Tryz.results156,go_sem,s0,s1]) rfl ?_
 have H8:=((H7.out.far0 qU.out 0 (.int .i64 i)).far0 (qU.out.set_ 0 (.int .i64 i)) 1 (.int .i64 ((g:Int)+1))).to
 have zaZ:=(zbX.out.setCell (p:=⟨w.heap.size,0,none⟩) (.inr (Nat.le_refl _)) (.int .i64 i)).setCell (p:=⟨w.heap.size,1,none⟩) (.inr (Nat.le_refl _)) (.int .i64 ((g:Int)+1))
 have HT:=Ad.out
 refine ⟨i,_,_,HT.1,by rw [HT.2.1],_,⟨⟨_,_,_,_,H8⟩,HT.2.2,fun b hb=>hb.2,Dt,fun j=>?_⟩,fun b hb=>Uw.out b hb.1,zaZ⟩
 have h9:=HT.1.ge j
 rw [h9]
 split
 ·have:=HG.out i;omega
 ·exact zJ.out j
def nO:Value→Option (DataW Value × List MemPlace):=fun v=>some (.held v,[])
def sE (x:Nat):Lit:=.int .i64 (x:Int)
theorem Kc {x y:Nat} (h:sE x=sE y):x=y:=by
 unfold sE at h
 injection h with _ h
 omega
theorem L4 (x:Nat):WideAt.IsKeyLit (sE x):=by unfold sE WideAt.IsKeyLit;trivial
theorem Od:Maps.Keyed Tryz.prog 3:=Maps.int_keyed Tryz.underlying3
theorem Fy {x:Nat} (h:x≤4611686018427387904):keyOf Tryz.prog 3 (.int .i64 (x:Int))=some (sE x):=
 Maps.keyOf_int_mk Tryz.underlying3 (by
  have e1:IntKind.i64.min = -9223372036854775808:=by rfl
  have e2:IntKind.i64.max=9223372036854775807:=by rfl
  simp only [Lit.wf,e1,e2,Bool.and_eq_true,decide_eq_true_eq];omega)
abbrev iV:Type:=Nat→Option Value
def iV.put (σ:iV) (x:Nat) (v:Value):iV:=fun y=>if y=x then some v else σ y
def iV.del (σ:iV) (x:Nat):iV:=fun y=>if y=x then none else σ y
def lE (w:World) (b n:Nat) (σ:iV):Prop:=
 ∃ D:DataW Value,w.ownsMap Tryz.prog 3 nO b n D∧∀ x,Maps.has D (sE x)=(σ x).isSome∧∀ v,σ x=some v→∀ z,D.atKey (sE x) z=.held v
theorem lE.made (w:World):lE (w.alloc (.map #[] 0)) w.heap.size 0 (fun _=>none):=
 ⟨_,World.ownsMap_made w _ _ _,fun x=>⟨rfl,fun v h=>by cases h⟩⟩
theorem lE.block {w w':World} {b n:Nat} {σ:iV} (h:lE w b n σ) (hb:w'.heap[b]?=w.heap[b]?):lE w' b n σ:=by
 obtain ⟨D,⟨es,clock,h1,h3⟩,h2⟩:=h
 exact ⟨D,⟨es,clock,hb.trans h1,h3⟩,h2⟩
theorem lE.lt {w:World} {b n:Nat} {σ:iV} (h:lE w b n σ):b<w.heap.size:=by
 obtain ⟨D,⟨es,clock,h1,h3⟩,h2⟩:=h
 rcases Nat.lt_or_ge b w.heap.size with bC | sR
 ·exact bC
 ·rw [Array.getElem?_eq_none sR] at h1;cases h1
theorem lE.ext {w w':World} {b n:Nat} {σ:iV} (h:lE w b n σ) (hw:aD w w'):lE w' b n σ:=h.block (hw.block h.lt)
theorem Ir {w w':World} {b k:Nat} (h:w.mapTurned w' b) (hk:k≠b):w'.heap[k]?=w.heap[k]?:=by
 obtain ⟨es,clock,es',clock',hb,rfl⟩:=h
 exact ChangeMaps.heap_setBlock_other hb _ hk
theorem gR {w w':World} {b g:Nat} {t:TypeId} {cs:Array Value} (h:w.mapTurned w' b) (hg:aL w g t cs) (hb:g≠b):aL w' g t cs:=(Ir h hb).trans hg
theorem vL {w:World} (t e:TypeId) (ht:Tryz.prog.underlying t=some (.map 3 e)) {z:Value} (hz:∀ w,(zeroValue e).run Tryz.prog w=.ok z w) {b n:Nat} {σ:iV} (h:lE w b n σ) {k:Nat} (hk:k≤4611686018427387904) :
 (Instr.lookup t (.map (some b)) (.int .i64 (k:Int)) false).run Tryz.prog w=.ok ((σ k).getD z) w:=by
 obtain ⟨D,h1,h2⟩:=h
 obtain ⟨v,ps,rG,hv⟩:=h1.lookup Od ht (hz w) (zd:=.held z) (zp:=[]) rfl (Fy hk)
 have hv':DataW.held v=D.atKey (sE k) (.held z):=by simpa [nO] using congrArg (fun o=>o.map Prod.fst) hv
 cases hs:σ k with
 |none=>
  have:=Maps.atKey_of_not_has (D:=D) (k:=sE k) (by rw [(h2 k).1,hs];rfl) (.held z)
  rw [this] at hv'
  obtain rfl:=DataW.held.inj hv'
  exact rG
 |some u=>
  rw [(h2 k).2 u hs] at hv'
  obtain rfl:=DataW.held.inj hv'
  exact rG
section
variable {w:World} {ops:Array Oper} {rest:List Oper} {o:Oper} {a:Act} {Q:Exit→Act→World→Prop}
theorem pS (hg:o.guard=none) (m x v:Operand) (t e:TypeId) (Vp:o.op=Op.mapUpdate t m x v) (ht:Tryz.prog.underlying t=some (.map 3 e))
 (b n:Nat) (σ:iV) (hm:a.eval m=.map (some b)) (cH:lE w b n σ) (hn:n<maxLen) (k:Nat) (val:Value) (hx:a.eval x=.int .i64 (k:Int)) (hv:a.eval v=val) (hk:k≤4611686018427387904)
 (hK:∀ w',Hid (lE w' b (n+1) (σ.put k val))→Hid (w.mapTurned w' b)→wpList Tryz.prog ops Q rest (a.put o.dst undef) w'):wpList Tryz.prog ops Q (o :: rest) a w:=by
 obtain ⟨D,h1,h2⟩:=cH
 refine wpList_mapUpdate_in w hg m x v t Vp 3 e Od ht nO b n D hm h1 hn (.int .i64 (k:Int)) val (sE k) hx hv (Fy hk) (.held val) [] rfl fun w' h3 h4=>hK w' ⟨_,h3,fun y=>?_⟩ h4
 by_cases hy:y=k
 ·subst hy
  simp only [iV.put,if_true]
  refine ⟨?_,fun v hv z=>?_⟩
  ·rw [Maps.has_put_same h1.isMap (L4 y)];rfl
  ·have Nf:val=v:=Option.some.inj hv
   rw [Maps.atKey_put_same h1.isMap (L4 y),Nf]
 ·have aZ:sE y≠sE k:=fun e=>hy (Kc e)
  simp only [iV.put,hy,if_false]
  exact ⟨by rw [Maps.has_put_other aZ];exact (h2 y).1,fun v hv z=>by rw [Maps.atKey_put_other aZ];exact (h2 y).2 v hv z⟩
theorem p6 (hg:o.guard=none) (m x:Operand) (t e:TypeId) (Vp:o.op=Op.call {callee:=Callee.builtin Builtin.delete,args:=#[m,x],argTypes:=#[t,3]}) (ht:Tryz.prog.underlying t=some (.map 3 e))
 (b n:Nat) (σ:iV) (hm:a.eval m=.map (some b)) (cH:lE w b n σ) (k:Nat) (hx:a.eval x=.int .i64 (k:Int)) (hk:k≤4611686018427387904)
 (hK:∀ w',Hid (lE w' b n (σ.del k))→Hid (w.mapTurned w' b)→wpList Tryz.prog ops Q rest (a.put o.dst (.tuple #[])) w'):wpList Tryz.prog ops Q (o :: rest) a w:=by
 obtain ⟨D,h1,h2⟩:=cH
 refine wpList_delete_own w hg m x t 3 Vp e Od ht nO b n D hm h1 (.int .i64 (k:Int)) (sE k) hx (Fy hk) fun w' h3 h4=>hK w' ⟨_,h3,fun y=>?_⟩ h4
 by_cases hy:y=k
 ·subst hy
  simp only [iV.del,if_true]
  exact ⟨Maps.has_del_same,fun v hv=>by cases hv⟩
 ·have aZ:sE y≠sE k:=fun e=>hy (Kc e)
  simp only [iV.del,hy,if_false]
  exact ⟨by rw [Maps.has_del_other aZ];exact (h2 y).1,fun v hv z=>by rw [Maps.atKey_del_other aZ];exact (h2 y).2 v hv z⟩
end
end Go.Proofs.YtahdiiaadjdmcaaGreat
