import Derived.Test.YtahdiiaadjdmcaaGreatNgJ
import Derived.Test.YtahdiiaadjdmcaaGreatNgK
namespace Go.Proofs.YtahdiiaadjdmcaaGreat
open Go.RowKit
theorem pO.rowS {w:World} {A:Option Addr} {n:Nat} {xs:List (List V)} (h:pO nW 1 w A n xs) {i:Nat} (hi:i<n) :
 ∃ b off r A9 c9,A=some ⟨b,off,none⟩∧xs[i]?=some r∧w.cell? ⟨b,off+i,none⟩=some (.slice A9 r.length c9)∧aW w A9 r.length r:=by
 obtain ⟨b,off,r,cs,hA,hx,oY,_,_,⟨A9,n9,c9,rfl,hR⟩,cV⟩:=h.get (by omega) hi
 have:=cV 0 (by omega)
 rw [Nat.mul_one,Nat.add_zero] at this
 obtain rfl:=hR.len
 exact ⟨b,off,r,A9,c9,hA,hx,this,hR⟩
def cY (w:World) (P:Nat→Prop) (A:Option Addr) (n c:Nat) (rows:List (List V)):Prop:=
 n=rows.length∧∃ cells,aJ w P 28 1 n (.slice A n c) cells∧gJ (fun w cs r=>∃ A n c,cs=[.slice A n c]∧aJ w P 85 3 n (.slice A n c) (aO r)) 1 w cells rows
theorem cY.keep {w w':World} {P Q:Nat→Prop} {A:Option Addr} {n c:Nat} {rows:List (List V)} (h:cY w P A n c rows) (hw:bU P w w') (hq:∀ b,P b→Q b):cY w' Q A n c rows:=by
 obtain ⟨h1,cells,h2,h3⟩:=h
 refine ⟨h1,cells,(h2.chg hw fun g hg h=>h hg).mono hq,h3.mono fun cs r hx=>?_⟩
 obtain ⟨A,n,c,e,ho⟩:=hx
 exact ⟨A,n,c,e,(ho.chg hw fun g hg h=>h hg).mono hq⟩
theorem cY.ext {w w':World} {P Q:Nat→Prop} {A:Option Addr} {n c:Nat} {rows:List (List V)} (h:cY w P A n c rows) (hw:aD w w') (hq:∀ b,P b→Q b):cY w' Q A n c rows:=h.keep (aF.of hw) hq
theorem cY.lat {w:World} {P:Nat→Prop} {A:Option Addr} {n c:Nat} {rows:List (List V)} (h:cY w P A n c rows):pO nW 1 w A n rows:=by
 obtain ⟨h1,cells,h2,h3⟩:=h
 refine ⟨h1,cells,h3.mono fun cs r hx=>?_,Sl.own h2.own⟩
 obtain ⟨A,n,c,e,ho⟩:=hx
 exact ⟨A,n,c,e,aW.own ho.own⟩
theorem cY.arg {w:World} {P:Nat→Prop} {A:Option Addr} {n c:Nat} {rows:List (List V)} (h:cY w P A n c rows) {i:Nat} {r:List V} (hr:rows[i]?=some r):∃ b off A9 c9,A=some ⟨b,off,none⟩∧w.cell? ⟨b,off+i,none⟩=some (.slice A9 r.length c9)∧aW w A9 r.length r:=by
 have hi:=(List.getElem?_eq_some_iff.1 hr).1
 obtain ⟨b,off,r',A9,c9,e,h2,h3,h4⟩:=h.lat.rowS (i:=i) (by have:=h.1;omega)
 obtain rfl:=Option.some.inj (hr.symm.trans h2)
 exact ⟨b,off,A9,c9,e,h3,h4⟩
theorem oP {r:List V} {A:Option Addr} {n c:Nat} {w:World} (ha:bD w A n r) :
 Calls Tryz.prog 16 #[.slice A n c] w fun e w'=>∃ A' c',e=.returned (.slice A' n c')∧bD w' A' n r∧(∀ a,A'=some a→w.heap.size≤a.block∧a.block<w'.heap.size)∧aD w w':=by
 have hl:=ha.len
 refine (uZ r A n c w ha.at_ (by omega)).mono ?_
 rintro e w' ⟨A',c',rfl,ho,hx⟩
 obtain rfl:=ha.at_.len
 exact ⟨A',c',rfl,⟨aW.own ho,hl,ha.small,ha.wf⟩,fun a ha=>ho.lt a.block (by rw [ha];rfl),hx⟩
def AP (w:World) (P:Nat→Prop) (A:Option Addr) (n:Nat) (r:List V):Prop:=bD w A n r∧∀ a,A=some a→P a.block
theorem AP.keep {w w':World} {P Q:Nat→Prop} {A:Option Addr} {n:Nat} {r:List V} (h:AP w P A n r) (hw:bU P w w') (hq:∀ b,P b→Q b):AP w' Q A n r:=
 ⟨h.1.chg (fun a ha hn=>hn (h.2 a ha)) hw,fun a ha=>hq _ (h.2 a ha)⟩
theorem AP.ext {w w':World} {P Q:Nat→Prop} {A:Option Addr} {n:Nat} {r:List V} (h:AP w P A n r) (hw:aD w w') (hq:∀ b,P b→Q b):AP w' Q A n r:=h.keep (aF.of hw) hq
theorem cY.argP {w:World} {P:Nat→Prop} {A:Option Addr} {n c:Nat} {rows:List (List V)} (h:cY w P A n c rows) {i:Nat} {r:List V} (hr:rows[i]?=some r) (h2:r.length≤1048576) (h3:dP r) (h4:uH r) :
 ∃ b off A9 c9,A=some ⟨b,off,none⟩∧w.cell? ⟨b,off+i,none⟩=some (.slice A9 r.length c9)∧AP w P A9 r.length r:=by
 obtain ⟨k1,cells,k2,k3⟩:=h
 have hi:=(List.getElem?_eq_some_iff.1 hr).1
 have hL:pO (fun w cs r=>∃ A n c,cs=[.slice A n c]∧aJ w P 85 3 n (.slice A n c) (aO r)) 1 w A n rows:=⟨k1,cells,k3,Sl.own k2.own⟩
 obtain ⟨b,off,r',cs,hA,hx,oY,_,_,⟨A9,n9,c9,rfl,hR⟩,cV⟩:=hL.get (by omega) (i:=i) (by omega)
 obtain rfl:r=r':=Option.some.inj (hr.symm.trans hx)
 have h0:=cV 0 (by omega)
 rw [Nat.mul_one,Nat.add_zero] at h0
 have gI:=aW.own hR.own
 obtain rfl:=gI.len
 refine ⟨b,off,A9,c9,hA,h0,⟨gI,h2,h3,h4⟩,fun a ha=>?_⟩
 subst ha
 exact hR.inB a.block rfl
structure zcB where
 kind:Int
 k:Int
 row:List V
def Ξ:World→List Value→zcB→Prop:=fun w cs o=>∃ A n c,cs=[.int .i64 o.kind,.int .i64 o.k,.slice A n c]∧aW w A n o.row
theorem Ξ.stab:Xc Ξ:=fun _ _ _ _ hw ⟨A,n,c,e,h⟩=>⟨A,n,c,e,h.ext hw⟩
theorem pO.op {w:World} {A:Option Addr} {n:Nat} {ops:List zcB} (h:pO Ξ 3 w A n ops) {i:Nat} (hi:i<n):∃ b off o A9 c9,A=some ⟨b,off,none⟩∧ops[i]?=some o∧b<w.heap.size∧w.cell? ⟨b,off+i*3,none⟩=some (.int .i64 o.kind)∧w.cell? ⟨b,off+i*3+1,none⟩=some (.int .i64 o.k)∧w.cell? ⟨b,off+i*3+2,none⟩=some (.slice A9 o.row.length c9)∧aW w A9 o.row.length o.row:=by
 obtain ⟨b,off,o,cs,rfl,ho,hbl,_,_,⟨A9,n9,c9,rfl,hr⟩,cV⟩:=pO.get (by omega) h hi
 obtain rfl:=hr.len
 exact ⟨b,off,o,A9,c9,rfl,ho,hbl,cV 0 (by omega),cV 1 (by omega),cV 2 (by omega),hr⟩
theorem Ws.np {s:SP} {w w':World} {e:Ending} (h:Ws s w w' e):(s.good=false∧e=.returned (.tuple #[.pointer none,.pointer none,.bool true])∧aD w w')∨
 (s.good=true∧∃ n d l b,e=.returned (.tuple #[.pointer (some ⟨n,0,none⟩),.pointer (some ⟨d,0,none⟩),.bool true])∧NP w w' n l (dN s) fH 262144 (fun x=>b≤x∧x<w'.heap.size)∧w.heap.size≤b∧Ib b w' d s):=by
 obtain ⟨hx,⟨h1,h2⟩ | ⟨h1,n,d,B,b,h2,h3,h4,h5,h6⟩⟩:=h
 ·exact .inl ⟨h1,h2,hx⟩
 ·obtain ⟨lab,v,q1,q2,q3⟩:=h3.at_
  exact .inr ⟨h1,n,d,v.l,b,h2,⟨h3.ok,h3.now,h3.old,⟨lab,v,q1,q2,rfl,fun x hx=>⟨(h4 x (q3 x hx)).1,fun hp=>by have:=(h4 x (q3 x hx)).2;omega⟩⟩,hx,fun x hx=>hx.2⟩,h5,h6⟩
theorem iS.liveFit {K:NK} {s:cR} (h:iS K s):∀ r∈s.live,yL K.width r:=fun r hr=>by
 by_cases h3:K.kind=3
 ·exact h.ons r ((h.meet h3 r).1 hr).1
 ·rw [h.plain h3] at hr
  exact h.ons r hr
theorem iS.liveLen {K:NK} (hK:fN K) {s:cR} (h:iS K s):s.live.length≤65536:=by
 have h1:=h.most;have h2:=hK.most
 by_cases h3:K.kind=3
 ·have:=nV h.lnd fun r hr=>((h.meet h3 r).1 hr).1
  omega
 ·rw [h.plain h3];omega
theorem fN.width {K:NK} (h:fN K):K.width≤30:=by
 have h1:=h.inn;have h2:=h.keep.1
 unfold NK.width
 split <;> omega
theorem yX {w:Nat} {r:List V} (h:yL w r) (hw:w≤30):r.length≤30:=by
 have h1:=h.1
 unfold aV at h1
 simp only [Bool.and_eq_true,decide_eq_true_eq] at h1
 omega
theorem iS.liveSmall {K:NK} (hK:fN K) {s:cR} (h:iS K s):∀ r∈s.live,r.length≤30:=fun r hr=>yX (h.liveFit r hr) hK.width
def eB (l:List (List V)):Prop:=l.length≤65536∧∀ q∈l,q.length≤30
theorem eB.nil:eB []:=⟨by simp,fun _ h=>by cases h⟩
theorem eB.one {q:List V} (h:q.length≤30):eB [q]:=⟨by simp,fun x hx=>by obtain rfl:=List.mem_singleton.1 hx;exact h⟩
theorem L7 {K:NK} (hK:fN K) {s:cR} (h:iS K s) (r:List V):eB (aM K s r):=by
 unfold aM
 refine ⟨?_,fun q hq=>yX (h.ons q (List.mem_filter.1 hq).1) hK.width⟩
 have h1:=List.length_filter_le (fun x=>bP (aE K.side x) r) s.ons
 have h2:=h.most;have h3:=hK.most
 omega
theorem Wg {w:Nat} {r:List V} (h:aV w r=true) (hw:w≤30):r.length≤30:=by
 unfold aV at h
 simp only [Bool.and_eq_true,decide_eq_true_eq] at h
 omega
theorem Eg {K:NK} (hK:fN K) {s:cR} (h:iS K s) (on:Bool) (f:Int) {r:List V} (hs:dP r) (hw:uH r):eB (iE K s on f r).2.1∧eB (iE K s on f r).2.2.1:=by
 have hb:=L7 hK h r
 unfold iE
 split
 ·split
  ·unfold sideN
   repeat' split
   all_goals exact ⟨by first | exact hb | exact eB.nil,by first | exact hb | exact eB.nil⟩
  ·exact ⟨eB.nil,eB.nil⟩
 ·split
  ·exact ⟨eB.nil,eB.nil⟩
  ·split
   ·rename_i hf
    have h1:=eB.one (Wg hf hK.inn)
    split
    ·have h2:eB [aE K.keep r]:=eB.one (by
      have:=(i7 hf hs hw hK.keep.1 hK.keep.2).len
      have:=hK.keep.1;omega)
     unfold jG
     repeat' split
     all_goals exact ⟨by first | exact h2 | exact eB.nil,by first | exact h2 | exact eB.nil⟩
    ·split
     ·unfold eD
      repeat' split
      all_goals exact ⟨by first | exact h1 | exact eB.nil,by first | exact h1 | exact eB.nil⟩
     ·unfold kM
      repeat' split
      all_goals exact ⟨by first | exact h1 | exact eB.nil,by first | exact h1 | exact eB.nil⟩
   ·exact ⟨eB.nil,eB.nil⟩
end Go.Proofs.YtahdiiaadjdmcaaGreat
