import Derived.Test.YtahdiiaadjdmcaaGreatCloneI
namespace Go.Proofs.YtahdiiaadjdmcaaGreat
open Go.RowKit
def bA (width:Int):Int→List Int→Bool
 | _,[]=>true
 | last,c :: l=>decide (last<c) && (decide (c<width) && bA width c l)
def lH (width most:Int) (gs:List (List Int)):Int:=
 if width<0∨30<width then 60 else if most<1∨65536<most then 50 else if 4<gs.length then 61 else if gs.all (bA width (-1)) then 0 else 61
theorem zK {width most:Int} {gs:List (List Int)} (h:width<0∨30<width):lH width most gs=60:=if_pos h
theorem Bq {width most:Int} {gs:List (List Int)} (h:¬ (width<0∨30<width)) (h2:most<1∨65536<most):lH width most gs=50:=by unfold lH;rw [if_neg h,if_pos h2]
theorem Jz {width most:Int} {gs:List (List Int)} (h:¬ (width<0∨30<width)) (h2:¬ (most<1∨65536<most)) (h3:4<gs.length):lH width most gs=61:=by unfold lH;rw [if_neg h,if_neg h2,if_pos h3]
theorem wY {width most:Int} {gs:List (List Int)} (h:¬ (width<0∨30<width)) (h2:¬ (most<1∨65536<most)) (h3:¬ 4<gs.length):lH width most gs=if gs.all (bA width (-1)) then 0 else 61:=by unfold lH;rw [if_neg h,if_neg h2,if_neg h3]
def qJ (w:World) (A:Option Addr) (n:Nat) (gs:List (List Int)):Prop:=
 n=gs.length∧∃ vs:List Value,Sl w A n 1 vs∧∀ (k:Nat) (g:List Int),gs[k]?=some g→∃ Ak ck,vs[k]?=some (.slice Ak g.length ck)∧cB w Ak g.length g
theorem qJ.ext {w w':World} {A:Option Addr} {n:Nat} {gs:List (List Int)} (h:qJ w A n gs) (hw:aD w w'):qJ w' A n gs:=by
 obtain ⟨h1,vs,h2,h3⟩:=h
 refine ⟨h1,vs,h2.ext hw,fun k g hg=>?_⟩
 obtain ⟨Ak,ck,h4,h5⟩:=h3 k g hg
 exact ⟨Ak,ck,h4,h5.ext hw⟩
theorem qJ.get {w:World} {A:Option Addr} {n:Nat} {gs:List (List Int)} (h:qJ w A n gs) {k:Nat} {g:List Int} (hg:gs[k]?=some g):∃ b off Ak ck,A=some ⟨b,off,none⟩∧w.cell? ⟨b,off+k,none⟩=some (.slice Ak g.length ck)∧cB w Ak g.length g:=by
 obtain ⟨h1,vs,h2,h3⟩:=h
 obtain ⟨Ak,ck,h4,h5⟩:=h3 k g hg
 have hk:=(List.getElem?_eq_some_iff.1 hg).1
 obtain ⟨b,off,e,hc⟩:=h2.2 (by omega)
 exact ⟨b,off,Ak,ck,e,hc k _ h4,h5⟩
structure kR (w:World) (B:Nat→Prop) (A:Option Addr) (k c:Nat) (gs:List (List Int)):Prop where
 len:k=gs.length
 row:∃ vs:List Value,aJ w B 23 1 k (.slice A k c) vs∧∀ (j:Nat) (g:List Int),gs[j]?=some g→∃ Ak ck,vs[j]?=some (.slice Ak g.length ck)∧aJ w B 3 1 g.length (.slice Ak g.length ck) (g.map (Value.int .i64))
theorem kR.ext {w w':World} {B:Nat→Prop} {A:Option Addr} {k c:Nat} {gs:List (List Int)} (h:kR w B A k c gs) (hw:aD w w'):kR w' B A k c gs:=by
 obtain ⟨h1,vs,h2,h3⟩:=h
 refine ⟨h1,vs,h2.ext hw,fun j g hg=>?_⟩
 obtain ⟨Ak,ck,h4,h5⟩:=h3 j g hg
 exact ⟨Ak,ck,h4,h5.ext hw⟩
theorem kR.nil (w:World) (B:Nat→Prop):kR w B none 0 0 []:=⟨rfl,[],aJ.nil _ _ _ _,fun j g h=>(by cases h)⟩
theorem kR.push1 {w w8:World} {B:Nat→Prop} {x:Nat} {cs:Array Value} {A A8 Ak:Option Addr} {k c c8 ck b0:Nat} {gs:List (List Int)} {g:List Int} {vs:List Value} (h:kR w B A k c gs) (hX:aL w x 131 cs) (hg:aJ w B 3 1 g.length (.slice Ak g.length ck) (g.map (Value.int .i64))) (hb0:B b0)
 (h2:aJ w B 23 1 k (.slice A k c) vs) (h3:∀ (j:Nat) (g:List Int),gs[j]?=some g→∃ Ak ck,vs[j]?=some (.slice Ak g.length ck)∧aJ w B 3 1 g.length (.slice Ak g.length ck) (g.map (Value.int .i64)))
 (o8:aJ w8 (fun b=>B b∨b=b0) 23 1 (k+1) (.slice A8 (k+1) c8) (vs ++ [.slice Ak g.length ck])) (G8:w.grownBy w8 (Value.slice A k c).ownBlock) (u:Value) :
 kR (w8.setCell ⟨x,3,none⟩ u) B A8 (k+1) c8 (gs ++ [g]):=by
 have h1:=h.len
 have fQ:=hX.grown G8 (aN h2.own hX (by decide))
 refine ⟨by rw [List.length_append,h1];rfl,vs ++ [.slice Ak g.length ck],?_,fun j q hq=>?_⟩
 ·have o9:=o8.far fQ (by decide) 3 u
  exact ⟨o9.own,fun b hb=>(o9.inB b hb).elim id fun e=>e ▸ hb0⟩
 ·have n_:vs.length=k:=by have:=h2.own.1;omega
  rcases Nat.lt_or_ge j gs.length with hj | hj
  ·rw [List.getElem?_append_left hj] at hq
   obtain ⟨Aj,cj,h4,h5⟩:=h3 j q hq
   exact ⟨Aj,cj,by rw [List.getElem?_append_left (by omega)];exact h4,(h5.grown h2.own (by decide) G8).far fQ (by decide) 3 u⟩
  ·rw [List.getElem?_append_right hj] at hq
   have Zq:j - gs.length=0:=by
    have:=(List.getElem?_eq_some_iff.1 hq).1
    simp at this;omega
   rw [Zq] at hq
   obtain rfl:g=q:=by simpa using hq
   refine ⟨Ak,ck,?_,(hg.grown h2.own (by decide) G8).far fQ (by decide) 3 u⟩
   rw [List.getElem?_append_right (by omega),show j - vs.length=0 by omega];rfl
theorem N3 {w w':World} {x:Nat} (h:aD w w') (hx:w.heap.size≤x) (j:Nat) (u:Value):aD w (w'.setCell ⟨x,j,none⟩ u):=
 (aF.setCell (B:=fun b=>w.heap.size≤b) (aF.refl _ w') (p:=⟨x,j,none⟩) (.inl hx) u).ext h fun _ hb=>hb
theorem kR.grp {w:World} {B:Nat→Prop} {A:Option Addr} {k c:Nat} {gs:List (List Nat)} (h:kR w B A k c (gs.map fun g=>g.map Int.ofNat)):lJ w B A gs.length gs:=by
 obtain ⟨h1,vs,h2,h3⟩:=h
 have hk:k=gs.length:=by rw [h1,List.length_map]
 subst hk
 have bE:∀ (A:Option Addr) (n c:Nat) (e:TypeId) (s:Nat) (xs:List Value),aJ w B e s n (.slice A n c) xs→∀ a,A=some a→B a.block:=fun A n c e s xs ho a ha=>by
  rcases ho.own.2 with ⟨h1,_⟩ | ⟨g,cap,cur,h1,h2,_⟩
  ·injection h1 with h1;rw [h1] at ha;cases ha
  ·injection h1 with h1
   rw [h1] at ha
   injection ha with ha
   subst ha
   exact ho.inB g (by rw [h1];rfl)
 refine ⟨rfl,bE _ _ _ _ _ _ h2,vs,Sl.own h2.own,fun j g hg=>?_⟩
 obtain ⟨Ak,ck,h4,h5⟩:=h3 j (g.map Int.ofNat) (by rw [List.getElem?_map,hg];rfl)
 rw [List.length_map] at h4 h5
 exact ⟨Ak,ck,h4,cB.own h5.own,bE _ _ _ _ _ _ h5⟩
theorem kR.bound {w:World} {B:Nat→Prop} {A:Option Addr} {k c:Nat} {gs:List (List Int)} (h:kR w B A k c gs):kR w (fun b=>B b∧b<w.heap.size) A k c gs:=by
 obtain ⟨h1,vs,h2,h3⟩:=h
 refine ⟨h1,vs,⟨h2.own,fun g hg=>⟨h2.inB g hg,h2.lt g hg⟩⟩,fun j g hg=>?_⟩
 obtain ⟨Ak,ck,h4,h5⟩:=h3 j g hg
 exact ⟨Ak,ck,h4,⟨h5.own,fun g hg=>⟨h5.inB g hg,h5.lt g hg⟩⟩⟩
theorem Ed {W:Int}:∀ {g:List Int} {last:Int},bA W last g=true→-1≤last→(g.map Int.toNat).map Int.ofNat=g
 | [],_,_,_=>rfl
 |c :: l,last,h,hl=>by
  simp only [bA,Bool.and_eq_true,decide_eq_true_eq] at h
  have ih:=Ed h.2.2 (by omega)
  simp only [List.map_cons,ih]
  congr 1
  exact Int.toNat_of_nonneg (by omega)
theorem Lv {W:Nat}:∀ {g:List Int} {last:Int},bA W last g=true→-1≤last→last<W→(∀ c∈g.map Int.toNat,c<W)∧(g.length:Int)≤W - 1 - last
 | [],_,_,_,h=>⟨fun c hc=>(by cases hc),by simp only [List.length_nil];omega⟩
 |c :: l,last,h,hl,_=>by
  simp only [bA,Bool.and_eq_true,decide_eq_true_eq] at h
  have ih:=Lv h.2.2 (by omega) (by omega)
  refine ⟨fun d hd=>?_,?_⟩
  ·rcases List.mem_cons.1 hd with rfl | hd
   ·omega
   ·exact ih.1 d hd
  ·have:=ih.2;simp only [List.length_cons];omega
theorem Xq {width most:Int} {gs:List (List Int)} (h:lH width most gs=0):(0≤width∧width≤30)∧(1≤most∧most≤65536)∧gs.length≤4∧∀ g∈gs.map (fun g=>g.map Int.toNat),g.length≤30∧∀ c∈g,c<width.toNat:=by
 by_cases h1:width<0∨30<width
 ·rw [zK h1] at h;omega
 by_cases h2:most<1∨65536<most
 ·rw [Bq h1 h2] at h;omega
 by_cases h3:4<gs.length
 ·rw [Jz h1 h2 h3] at h;omega
 rw [wY h1 h2 h3] at h
 cases hg:gs.all (bA width (-1)) with
 | false=>rw [hg] at h;simp at h
 |true=>
  refine ⟨by omega,by omega,by omega,fun g zf4=>?_⟩
  obtain ⟨g0,kY,rfl⟩:=List.mem_map.1 zf4
  obtain ⟨W,rfl⟩ : ∃ W:Nat,width=W:=⟨width.toNat,by omega⟩
  have h5:=Lv (List.all_eq_true.1 hg g0 kY) (by omega) (by omega)
  refine ⟨?_,fun c hc=>by have:=h5.1 c hc;omega⟩
  have:=h5.2
  rw [List.length_map];omega
theorem za7:(Tryz.prog.info? 23).map (fun i=>(i.zero,i.size,i.bytes))=some (some (.slice none 0 0),1,24):=by kernel_rfl
theorem Qo {α:Type} {p:α→Bool} {l:List α} {i:Nat} {a:α} (h:l[i]?=some a) (hp:p a=false):l.all p=false:=by
 cases hl:l.all p with
 | false=>rfl
 |true=>
  have:=List.all_eq_true.1 hl a (List.mem_of_getElem? h)
  rw [hp] at this;cases this
def zab (w0 w:World) (x:Nat) (width most n:Nat) (gs:List (List Int)) (i:Nat):Prop:=
 ∃ A c,aL w x 131 (r6 width most (n+1) A i c (.pointer none) (.map none) (.pointer none) (.slice none 0 0) (.pointer none) (.map none) (.pointer none))∧kR w (fun b=>w0.heap.size≤b∧b≠x) A i c (gs.take i)∧aD w0 w∧w0.heap.size≤x
set_option maxRecDepth 100000 in
set_option maxHeartbeats 2000000 in
theorem Tf {w:World} (width most:Int) {A:Option Addr} {n:Nat} (c:Nat) {gs:List (List Int)} (hg:qJ w A n gs) (hn:n≤1048576) (hl:∀ g∈gs,g.length≤1048576) :
 Calls Tryz.prog 62 #[.int .i64 width,.int .i64 most,.slice A n c] w fun e w'=>aD w w'∧
  ((lH width most gs≠0∧e=.returned (.tuple #[.pointer none,.int .i64 (lH width most gs)]))∨
   (lH width most gs=0∧∃ x lab v,e=.returned (.tuple #[.pointer (some ⟨x,0,none⟩),.int .i64 0])∧cW w' lab v∧xX v x width.toNat most.toNat (gs.map fun g=>g.map Int.toNat)∧∀ b,lab.dom b→w.heap.size≤b)):=by
 have HG:=aA hg
 obtain rfl:=hg.1
 have HL:=aA hl
 clear hg hl
 go_enter Tryz.func62,Tryz.ntmps62
 by_cases h60:width<0
 ·go_wp2_with fail
  go_ret2
  rw [zK (.inl h60)]
  exact ⟨aD.refl _,.inl ⟨by omega,rfl⟩⟩
 by_cases h61:30<width
 ·go_wp2_with fail
  go_ret2
  rw [zK (.inr h61)]
  exact ⟨aD.refl _,.inl ⟨by omega,rfl⟩⟩
 by_cases h50:most<1
 ·go_wp2_with fail
  go_ret2
  rw [Bq (by omega) (.inl h50)]
  exact ⟨aD.refl _,.inl ⟨by omega,rfl⟩⟩
 by_cases h51:65536<most
 ·go_wp2_with fail
  go_ret2
  rw [Bq (by omega) (.inr h51)]
  exact ⟨aD.refl _,.inl ⟨by omega,rfl⟩⟩
 obtain ⟨W,rfl⟩ : ∃ W:Nat,width=W:=⟨width.toNat,by omega⟩
 obtain ⟨M,rfl⟩ : ∃ M:Nat,most=M:=⟨most.toNat,by omega⟩
 have gH:=aA (fun h=>wY (width:=(W:Int)) (most:=(M:Int)) (gs:=gs) (by omega) (by omega) h)
 have h61':=aA (fun h=>Jz (width:=(W:Int)) (most:=(M:Int)) (gs:=gs) (by omega) (by omega) h)
 have hW:=aA (show W≤30 by omega);have hM:=aA (show 1≤M∧M≤65536 by omega)
 obtain ⟨n,lP⟩ : ∃ n,gs.length=n:=⟨_,rfl⟩
 rw [lP] at HG hn gH h61' ⊢
 have HN:=aA lP
 clear lP
 by_cases h4:(4:Int)<(n:Int)
 ·go_wp2_with fail
  go_ret2
  rw [h61'.out (by omega)]
  exact ⟨aD.refl _,.inl ⟨by omega,rfl⟩⟩
 have zky:¬ 4<n:=by omega
 have Ym:=aA (gH.out zky)
 clear gH h61'
 obtain ⟨i0,eQ,hz0,hz1,eO⟩:=info_parts za7
 have zeP:=aA (aL.new w 131 (r6 W M (n+1) none 0 0 (.pointer none) (.map none) (.pointer none) (.slice none 0 0) (.pointer none) (.map none) (.pointer none)))
 have Cs:=aA (show zab w (w.alloc (.cells (r6 W M (n+1) none 0 0 (.pointer none) (.map none) (.pointer none) (.slice none 0 0) (.pointer none) (.map none) (.pointer none)) 131)) w.heap.size W M n gs 0 from ⟨none,0,zeP.out,kR.nil _ _,aD.alloc w _,Nat.le_refl _⟩)
 go_wp2_with fail
 clear zeP
 obtain ⟨x,hx⟩ : ∃ x,w.heap.size=x:=⟨_,rfl⟩
 rw [hx] at Cs ⊢
 have HX:=aA hx
 clear hx
 go_loopw [6,7,10,11,13,41] (fun _ _ _ _ _ s41 w'=>∃ i:Nat,i≤n∧s41=.int .i64 i∧Hid (zab w w' x W M n gs i)∧Hid ((gs.take i).all (bA W (-1))=true)) (fun _ _ _ _ _ s41 _=>n - (intOf s41).toNat)
 case atStart=>exact ⟨0,by omega,rfl,Cs,rfl⟩
 case round=>
  obtain ⟨i,bE,rfl,hI,hR⟩:=hrel
  obtain ⟨GA,gc,x5,g5,e5,l5⟩:=hI.out
  have X5:=aA x5;have G5:=aA g5;have E5:=aA e5;have L5:=aA l5
  clear x5 g5 e5 l5 hI
  by_cases hi:i<n
  ·obtain ⟨g,wS⟩ : ∃ g,gs[i]?=some g:=⟨_,List.getElem?_eq_getElem (by have:=HN.out;omega)⟩
   have nD:=HL.out g (List.mem_of_getElem? wS)
   obtain ⟨b,off,Ak,ck,rfl,ga,gk⟩:=(HG.out.ext E5.out).get wS
   have GK:=aA gk;have X_:=aA wS
   clear gk wS
   have zkg:(i:Int)<(n:Int):=by omega
   obtain ⟨m,hm⟩ : ∃ m,g.length=m:=⟨_,rfl⟩
   rw [hm] at ga GK nD
   have zg8:=aA hm
   clear hm
   go_wp2_with fail
   go_loopw [6,7,11,13,47] (fun _ _ s11 _ s47 w'=>∃ (j:Nat) (last:Int),j≤m∧s47=.int .i64 j∧s11=.int .i64 last∧Hid (bA W (-1) g=bA W last (g.drop j))∧wr=w') (fun _ _ _ _ s47 _=>m - (intOf s47).toNat)
   case atStart=>exact ⟨0,-1,by omega,rfl,rfl,rfl,rfl⟩
   case round=>
    obtain ⟨j,last,hjm,rfl,rfl,hq,rfl⟩:=hrel
    by_cases hj:j<m
    ·obtain ⟨b2,off2,cv,rfl,zbj,-,cV⟩:=GK.out.get hj
     have zi2:(j:Int)<(m:Int):=by omega
     have zgX:j<g.length:=by have:=zg8.out;omega
     have fI:=aA (show bA W (-1) g=(decide (last<cv) && (decide (cv<(W:Int)) && bA W cv (g.drop (j+1)))) by
      rw [hq.out,List.drop_eq_getElem_cons zgX]
      rw [List.getElem?_eq_getElem zgX] at zbj
      rw [Option.some.inj zbj];rfl)
     clear zbj
     by_cases zgU:cv≤last
     ·go_wp2_with fail
      go_ret2
      have hz:lH (W:Int) (M:Int) gs=61:=by rw [Ym.out,if_neg (by rw [Qo X_.out (by rw [fI.out,decide_eq_false (by omega)];rfl)];exact Bool.false_ne_true)]
      rw [hz]
      exact ⟨E5.out,.inl ⟨by omega,rfl⟩⟩
     ·by_cases mG:(W:Int)≤cv
      ·go_wp2_with fail
       go_ret2
       have hz:lH (W:Int) (M:Int) gs=61:=by rw [Ym.out,if_neg (by rw [Qo X_.out (by rw [fI.out,decide_eq_false (p:=cv<(W:Int)) (by omega),Bool.false_and,Bool.and_false])];exact Bool.false_ne_true)]
       rw [hz]
       exact ⟨E5.out,.inl ⟨by omega,rfl⟩⟩
      ·go_wp2_with fail
       go_roundw
       case rel=>exact ⟨j+1,cv,by omega,by go_num,rfl,aA (by rw [fI.out,decide_eq_true (p:=last<cv) (by omega),decide_eq_true (p:=cv<(W:Int)) (by omega)];rfl),trivial⟩
       case measure=>simp [intOf];omega
    ·obtain rfl:j=m:=by omega
     have qA:bA (W:Int) (-1) g=true:=by rw [hq.out,List.drop_eq_nil_of_le (by have:=zg8.out;omega)];rfl
     have zc6:=aA qA
     clear qA hq
     have a3:wr.cell? ⟨x,3,none⟩=some (.slice GA i gc):=X5.out.cell 3
     have HCl:=aA (fun (w1:World) (h1:aD wr w1)=>Xy (g.map (Value.int .i64)) Ak j ck w1 (GK.out.ext h1).2 (Cj g) (by omega))
     go_upto_region 19 with fail
     have a3:=aB a3
     refine mJ 8 (by kernel_rfl) (by kernel_rfl) (by kernel_rfl) ?_
     refine ⟨_,_,?_,rfl,?_⟩;rotate_left
     refine ⟨⟨by kernel_rfl,fun w9=>?_⟩,fun _ _ _ h=>h,fun K hK=>?_⟩
     ·go_simp;first | done | rfl
     go_simp;refine hK _ _ ?_;clear hK K
     iterate 5
      refine aK (by kernel_rfl) (by kernel_rfl) ?_
      apply Exists.intro
      refine ⟨fun w1 aT=>?_,fun K hK=>?_⟩
      ·go_simp;first | done | rfl
      go_simp;refine hK _ _ ?_;clear hK K
     refine cU [] (fun u w1=>∃ Ac cc,u=.slice Ac j cc∧w1.ownsRow wr.heap.size 3 1 (.slice Ac j cc) j (g.map (Value.int .i64))) (fun u w1 w2 _ h2 ⟨Ac,cc,h3,h4⟩=>⟨Ac,cc,h3,iL h4 h2⟩) rfl (by kernel_rfl) (fun w1 aT=>?_) ?_
     ·clear a3
      simp only [cN]
      go_simp
      refine ⟨aD.refl _,(HCl.out w1 aT).mono fun e w' h=>?_⟩
      obtain ⟨Ac,cc,rfl,h2,h3⟩:=h
      exact ⟨_,rfl,h3,Ac,cc,rfl,dS h2 aT.size⟩
     refine cU [67] (fun u w1=>∃ gb Ac cc,u=.slice (some ⟨gb,0,none⟩) 1 1∧aL w1 gb 23 #[.slice Ac j cc]∧w1.ownsRow wr.heap.size 3 1 (.slice Ac j cc) j (g.map (Value.int .i64))) (fun u w1 w2 _ h2 ⟨gb,Ac,cc,h3,h4,h5⟩=>⟨gb,Ac,cc,h3,h4.ext h2,iL h5 h2⟩) rfl (by kernel_rfl) (fun w1 aT=>?_) ?_
     ·clear a3
      simp only [cN]
      intro u hu
      obtain ⟨Ac,cc,rfl,h2⟩:=hu _ rfl
      clear hu
      go_simp
      exact ⟨aD.alloc _ _,Ac,cc,aL.new _ _ _,iL h2 (aD.alloc _ _)⟩
     refine aH ⟨rfl,by kernel_rfl,fun w5 hw5=>?_⟩
     simp only [bL]
     rintro _ ⟨gb,Ac,cc,rfl,hgb,dY⟩ _ _
     simp only [List.drop]
     clear a3
     have X6:=aA (X5.out.ext hw5);have G6:=aA (G5.out.ext hw5);have E6:=aA (E5.out.trans hw5)
     have HS:=aA (show Sl w5 (some ⟨gb,0,none⟩) 1 1 [.slice Ac j cc] from hgb.sl rfl)
     have dG:=aA (show aQ [Value.slice Ac j cc] from fun v hv=>by simp at hv;rw [hv];rfl)
     have vU:=aA (show aJ w5 (fun b=>w.heap.size≤b∧b≠x) 3 1 j (.slice Ac j cc) (g.map (Value.int .i64)) from ⟨dS dY (Nat.zero_le _),fun b hb=>by
      have h1:=(dY.lt b hb).1
      have h2:=X5.out.lt
      have h3:=E5.out.size
      exact ⟨by omega,by omega⟩⟩)
     have iZ:=aA (show w.heap.size≤w5.heap.size∧x<w5.heap.size from ⟨E6.out.size,X6.out.lt⟩)
     obtain ⟨vs,ov,hvs⟩:=G6.out.row
     have HV:=aA (And.intro ov hvs)
     have oR:=aA (fun (A8:Option Addr) (c8:Nat) (w8:World) (own8:aJ w8 (fun b=>(w.heap.size≤b∧b≠x)∨b=w5.heap.size) 23 1 (i+1) (.slice A8 (i+1) c8) (vs ++ [.slice Ac j cc])) (G8:w5.grownBy w8 (Value.slice GA i gc).ownBlock) (C8:aF (fun b=>w.heap.size≤b∧b≠x) w5 w8)=>
      show zab w (w8.setCell ⟨x,3,none⟩ (.slice A8 (i+1) c8)) x W M n gs (i+1) from by
       have cZ:=zg8.out
       subst cZ
       have nD:=G6.out.len
       refine ⟨A8,c8,(X6.out.grown G8 (aN HV.out.1.own X6.out (by decide))).set_ 3 _,?_,N3 (C8.ext E6.out fun b hb=>hb.1) L5.out 3 _,L5.out⟩
       rw [List.take_add_one,X_.out]
       exact kR.push1 G6.out X6.out vU.out ⟨iZ.out.1,by have:=iZ.out.2;omega⟩ HV.out.1 HV.out.2 own8 G8 _)
     clear hgb dY hw5 ov hvs X5 G5 E5
     go_upto_region 20 with (at_builtin;refine aI rfl (.tmp 65) (.tmp 68) _ rfl (fun b=>w.heap.size≤b∧b≠x) 23 i0 _ 1 24 Tryz.underlying116 eQ hz0 hz1 eO rfl (by omega) (.slice GA i gc) i vs rfl HV.out.1 _ 1 1 _ rfl HS.out dG.out (by unfold maxLen;omega) (by omega) ?_;intro A8 c8 w8 own8 G8 C8;have fQ:=X6.out.grown G8.out (aN HV.out.1.own X6.out (by decide));have f8:=fQ.frozen 3;have v8:=fQ.cell 3;clear fQ)
     have zgK:=aA (oR.out A8 c8 w8 own8.out G8.out C8.out)
     have zjk:=aA (show (gs.take (i+1)).all (bA (W:Int) (-1))=true by
      rw [List.take_add_one,X_.out,List.all_append,hR.out]
      simp [zc6.out])
     clear oR own8 G8 C8 f8 v8 X6 G6 E6 HS dG vU HV HCl
     go_wp2_with fail
     go_roundw
     case rel=>exact ⟨i+1,by omega,by go_num,zgK,zjk⟩
     case measure=>simp [intOf];omega
  ·obtain rfl:i=n:=by omega
   have qA:gs.all (bA (W:Int) (-1))=true:=by
    have h1:=hR.out
    rw [List.take_of_length_le (by have:=HN.out;omega)] at h1
    exact h1
   have hz:lH (W:Int) (M:Int) gs=0:=by rw [Ym.out,if_pos qA]
   have sR:(gs.map fun g=>g.map Int.toNat).map (fun g=>g.map Int.ofNat)=gs:=by
    rw [List.map_map]
    refine (List.map_congr_left fun g hg=>?_).trans (List.map_id _)
    exact Ed (List.all_eq_true.1 qA g hg) (by omega)
   have c_:(gs.map fun g=>g.map Int.toNat).length=i:=by rw [List.length_map];exact HN.out
   have hG:lJ wr (fun b=>(w.heap.size≤b∧b≠x)∧b<wr.heap.size) GA (gs.map fun g=>g.map Int.toNat).length (gs.map fun g=>g.map Int.toNat):=by
    refine kR.grp (k:=i) (c:=gc) ?_
    rw [sR]
    have h1:=G5.out
    rw [List.take_of_length_le (by have:=HN.out;omega)] at h1
    exact h1.bound
   have HLay:=aA (vj (gs:=gs.map fun g=>g.map Int.toNat) (by rw [c_];exact X5.out) hG (fun h=>h.1.2 rfl) (fun b hb=>hb.2) hM.out (by omega))
   have HZ:=aA hz
   clear hG hz qA sR c_ G5
   go_wp2_with ((with_reducible refine HLay.out.mono ?_);rintro e w2 ⟨rfl,lab,v,s2,f2,d2,c2⟩;have S2:=aA s2;have F2:=aA f2;have D2:=aA d2;have C2:=aA c2;clear s2 f2 d2 c2)
   go_ret2
   rw [HZ.out]
   refine ⟨C2.out.ext E5.out fun b hb=>by subst hb;exact L5.out,.inr ⟨rfl,x,lab,v,rfl,S2.out,F2.out,fun b hb=>?_⟩⟩
   rcases D2.out b hb with h1 | h1 | h1
   ·subst h1;exact L5.out
   ·exact h1.1.1
   ·exact Nat.le_trans E5.out.size h1
end Go.Proofs.YtahdiiaadjdmcaaGreat
