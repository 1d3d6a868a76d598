import Derived.Test.YtahdiiaadjdmcaaGreatNqH
namespace Go.Proofs.YtahdiiaadjdmcaaGreat
open Go.RowKit
set_option maxRecDepth 100000 in
theorem yz {w:World} {r:List V} {cols:List Int} {A B:Option Addr} {n m:Nat} (c d:Nat) (ha:aW w A n r) (hb:cB w B m cols) (hn:n≤1048576) (hm:m≤1048576) :
 Calls Tryz.prog 43 #[.slice A n c,.slice B m d] w fun e w'=>∃ A' c',e=.returned (.slice A' (dZ r cols).1.length c')∧w'.ownsRow w.heap.size 85 3 (.slice A' (dZ r cols).1.length c') (dZ r cols).1.length (aO (dZ r cols).1)∧aD w w':=by
 have HP:=aA (vJ r cols A B n m c d w ha hb hn hm)
 clear ha hb
 generalize dZ r cols=pr at *
 go_enter Tryz.func43,Tryz.ntmps43
 go_wp2_with ((with_reducible refine HP.out.mono ?_);rintro e w2 ⟨A',c',rfl,ho,hx⟩;have O2:=aA ho;have X2:=aA hx;clear ho hx)
 go_ret
 exact ⟨A',c',rfl,O2.out,X2.out⟩
def zbA (P:Nat→Prop) (w:World) (rows:List (List V)) (e:Ending) (w':World):Prop:=∃ A c,e=.returned (.slice A rows.length c)∧cY w' (And' P w.heap.size w'.heap.size) A rows.length c rows∧aD w w'
set_option maxRecDepth 100000 in
set_option maxHeartbeats 2000000 in
theorem yE {w:World} {P:Nat→Prop} {rows:List (List V)} {A:Option Addr} {n c:Nat} (h:cY w P A n c rows) {p:Nat} (hp:p<n) (hn:n≤1048576) (hP:∀ b,P b→b<w.heap.size) :
 Calls Tryz.prog 70 #[.slice A n c,.int .i64 p] w (zbA P w (rows.take p ++ rows.drop (p+1))):=by
 have hl:=h.1
 obtain ⟨xs,own,els⟩:=Nb h
 obtain ⟨g,rfl,-,-,-,-⟩:=own.at_ (by omega)
 obtain ⟨Ec,G_⟩:=own.cap
 have zaU:pO (RB P) 1 w (some ⟨g,0,none⟩) n rows:=pO.rb h
 obtain ⟨bC,cells1,kx,gG⟩:=zaU.take p (by omega)
 obtain ⟨hld,cells2,y9,xC⟩:=zaU.drop (p+1) (by omega)
 rw [Nat.mul_one,Nat.zero_add] at xC
 obtain ⟨p1,zaX⟩ : ∃ p1,p+1=p1:=⟨_,rfl⟩
 obtain ⟨A2,hA2⟩ : ∃ A2,(if c=p1 then some (⟨g,0,none⟩ : Addr) else some ⟨g,p1,none⟩)=A2:=⟨_,rfl⟩
 rw [zaX] at xC
 have xC:Sl w A2 (n - p1) 1 cells2:=by
  rw [← hA2]
  split
  ·exact ⟨xC.1,fun h=>absurd h (by omega)⟩
  ·exact xC
 have zck:IntKind.i64.wrap ((p:Int)+1)=(p1:Int):=by rw [IntWalk.i64_in _ (by omega)];omega
 have zf2:(p1:Int)≤(n:Int):=by omega
 have zg6:p≤c:=by omega
 have Θ:=aA zaX;have HL:=aA hl
 have Ma:=aA kx;have vd:=aA y9;have zeh:=aA kx.one;have zdK:=aA y9.one;have zhV:=aA hP
 have ziO:=aL.new w 28 #[]
 have Mi:=aA (aD.alloc w (.cells #[] 28))
 have sQ:=aA (gG.ext Mi.out);have zdp:=aA xC
 have ql:=aA (show aJ (w.alloc (.cells #[] 28)) (fun b=>b=w.heap.size) 28 1 0 (.slice (some ⟨w.heap.size,0,none⟩) 0 0) [] from ⟨⟨rfl,.inr ⟨w.heap.size,0,#[],rfl,Nat.zero_le _,ziO,Nat.le_refl _,Nat.zero_le _,rfl,rfl⟩⟩,fun b hb=>by simpa [Value.ownBlock] using hb.symm⟩)
 obtain ⟨i0,eQ,hz0,hz1,eO⟩:=info_parts tU
 clear zaX hl own els zaU bC hld kx y9 gG xC hP ziO h
 go_enter Tryz.func70,Tryz.ntmps70
 go_upto_region 2 with (at_builtin;refine aI rfl (.tmp 6) (.tmp 9) _ rfl _ 28 i0 _ 1 24 Tryz.underlying36 eQ hz0 hz1 eO rfl (by omega) (.slice (some ⟨w.heap.size,0,none⟩) 0 0) 0 [] rfl ql.out (some ⟨g,0,none⟩) p c cells1 rfl sQ.out zeh.out (by unfold maxLen;omega) (by omega) ?_;intro A8 c8 w2 own8 G8 C8)
 have own8':=own8.out
 rw [Nat.zero_add,List.nil_append] at own8'
 have Gc:=aA own8'
 have X2:=aA (show aD w w2 from C8.out.ext Mi.out fun b hb=>by omega)
 have Me:=aA (zdp.out.ext X2.out)
 clear own8 own8' G8 C8 ql sQ
 go_wp2_with (at_builtin;refine aI rfl (.tmp 11) (.tmp 15) _ rfl _ 28 i0 _ 1 24 Tryz.underlying36 eQ hz0 hz1 eO rfl (by omega) (.slice A8 p c8) p cells1 rfl Gc.out A2 (n - p1) (c - p1) cells2 rfl Me.out zdK.out (by unfold maxLen;omega) (by omega) ?_;intro zii c11 w3 own11 zk2 zj8)
 go_ret
 have h1:=X2.out.size
 have zeK:=Mi.out.size
 have oZ:(w.alloc (.cells #[] 28)).heap.size=w.heap.size+1:=by simp
 have zhA:aD w w3:=zj8.out.ext X2.out fun b hb=>by rcases hb with hb | hb <;> omega
 have cZ:(rows.take p ++ rows.drop (p+1)).length=p+(n - p1):=by
  have:=HL.out;have:=Θ.out
  rw [List.length_append,List.length_take,List.length_drop];omega
 refine ⟨zii,c11,(by rw [cZ];rfl),?_,zhA⟩
 rw [cZ]
 refine ⟨cZ.symm,_,⟨own11.out.own,fun b hb=>.inr ⟨?_,own11.out.lt b hb⟩⟩,?_⟩
 ·rcases own11.out.inB b hb with (hb | hb) | hb <;> omega
 ·exact (Ma.out.append vd.out).mono fun cs r hx=>by
   obtain ⟨A,n,c,e,ho⟩:=hx
   exact ⟨A,n,c,e,(ho.ext zhA).mono fun b hb=>.inl hb⟩
def Ow (P:Nat→Prop) (w:World) (t:List (List V) × Int) (e:Ending) (w':World):Prop:=∃ A c,e=.returned (.tuple #[.slice A t.1.length c,.int .i64 t.2])∧cY w' (And' P w.heap.size w'.heap.size) A t.1.length c t.1∧aD w w'
theorem Ei (l:List (List V)) (i:Nat):l.eraseIdx i=l.take i ++ l.drop (i+1):=by
 rw [List.eraseIdx_eq_take_drop_succ]
set_option maxRecDepth 100000 in
set_option maxHeartbeats 2000000 in
theorem zl {w:World} {P:Nat→Prop} {rows:List (List V)} {A Ar:Option Addr} {n c m:Nat} {r:List V} (cr:Nat) (h:cY w P A n c rows) (hn:n≤65536) (hs:∀ s∈rows,s.length≤30) (hP:∀ b,P b→b<w.heap.size) (ha:bD w Ar m r) (most:Nat) :
 Calls Tryz.prog 44 #[.slice A n c,.bool false,.slice Ar m cr,.int .i64 most] w (Ow P w (iH rows false r most)):=by
 have hl:=h.1
 have pX:=aA (iU rows r A Ar n m c cr w h.lat ha.at_ (by omega) (fun s hh=>by have:=hs s hh;omega))
 have gE:=pF r rows 0
 cases hi:jW r rows with
 |none=>
  rw [hi] at gE
  rw [gE] at pX
  have qy:=aA (show iH rows false r most=(rows,192) by unfold iH;rw [hi];rfl)
  have HT:=aA h
  have HL:=aA hl
  clear hi gE h hs hP ha hl
  go_enter Tryz.func44,Tryz.ntmps44
  go_wp2_with ((with_reducible refine pX.out.mono ?_);rintro e w2 ⟨rfl,x2⟩;have X2:=aA x2;clear x2)
  go_ret2
  rw [qy.out]
  exact ⟨A,c,(by rw [← HL.out];rfl),by rw [← HL.out];exact HT.out.ext X2.out fun b hb=>.inl hb,X2.out⟩
 |some p=>
  rw [hi] at gE
  have gE:oJ r rows 0=(p:Int):=by rw [gE];simp
  have hp:p<n:=by have:=(List.getElem?_eq_some_iff.1 (iC hi)).1;omega
  rw [gE] at pX
  have qy:=aA (show iH rows false r most=(rows.take p ++ rows.drop (p+1),0) by unfold iH;rw [hi,← Ei];rfl)
  obtain ⟨rs,wm⟩ : ∃ rs,rows.take p ++ rows.drop (p+1)=rs:=⟨_,rfl⟩
  rw [wm] at qy
  have zkm:=aA wm
  have HT:=aA h;have zhV:=aA hP
  have Yz:¬ (p:Int)<0:=by omega
  have HP:=aA hp;have HN:=aA hn
  clear hi gE h hs hP ha hl hp wm
  go_enter Tryz.func44,Tryz.ntmps44
  go_wp2_with ((with_reducible refine pX.out.mono ?_);rintro e w2 ⟨rfl,x2⟩;have X2:=aA x2;have HW:=aA (yE (HT.out.ext x2 (Q:=P) fun _ h=>h) HP.out (by have:=HN.out;omega) fun b hb=>Nat.lt_of_lt_of_le (zhV.out b hb) x2.size);rw [zkm.out] at HW;clear x2)
  refine HW.out.mono ?_
  rintro e w3 ⟨A3,c3,rfl,t3,x3⟩
  have T3:=aA t3;have X3:=aA x3
  clear t3 x3 HW
  go_wp2_with fail
  go_ret2
  rw [qy.out]
  refine ⟨A3,c3,rfl,?_,X2.out.trans X3.out⟩
  obtain ⟨k1,cells,k2,k3⟩:=T3.out
  have hq:∀ b,And' P w2.heap.size w3.heap.size b→And' P w.heap.size w3.heap.size b:=fun b hb=>hb.imp id fun h=>⟨by have:=X2.out.size;omega,h.2⟩
  exact T3.out.ext (aD.refl _) hq
set_option maxRecDepth 100000 in
set_option maxHeartbeats 2000000 in
theorem zaV {w:World} {P:Nat→Prop} {rows:List (List V)} {A Ar:Option Addr} {n c m:Nat} {r:List V} (cr:Nat) (h:cY w P A n c rows) (hn:n≤65536) (hs:∀ s∈rows,s.length≤30) (ha:bD w Ar m r) (most:Nat) :
 Calls Tryz.prog 44 #[.slice A n c,.bool true,.slice Ar m cr,.int .i64 most] w (Ow P w (iH rows true r most)):=by
 have hl:=h.1
 have pX:=aA (iU rows r A Ar n m c cr w h.lat ha.at_ (by omega) (fun s hh=>by have:=hs s hh;omega))
 have gE:=pF r rows 0
 cases hi:jW r rows with
 |some p=>
  rw [hi] at gE
  have gE:oJ r rows 0=(p:Int):=by rw [gE];simp
  rw [gE] at pX
  have qy:=aA (show iH rows true r most=(rows,191) by unfold iH;rw [hi];rfl)
  have HT:=aA h
  have HL:=aA hl
  have Yz:0≤(p:Int):=by omega
  clear hi gE h hs ha hl
  go_enter Tryz.func44,Tryz.ntmps44
  go_wp2_with ((with_reducible refine pX.out.mono ?_);rintro e w2 ⟨rfl,x2⟩;have X2:=aA x2;clear x2)
  go_ret2
  rw [qy.out]
  exact ⟨A,c,(by rw [← HL.out];rfl),by rw [← HL.out];exact HT.out.ext X2.out fun b hb=>.inl hb,X2.out⟩
 |none=>
  rw [hi] at gE
  rw [gE] at pX
  have HT:=aA h
  have HL:=aA hl
  by_cases hm:most≤n
  ·have qy:=aA (show iH rows true r most=(rows,31) by unfold iH;rw [hi];show (if most≤rows.length then (rows,(31:Int)) else (rows ++ [r],0))=_;exact if_pos (by omega))
   have pT:(most:Int)≤(n:Int):=by omega
   clear hi gE h hs ha hl hm
   go_enter Tryz.func44,Tryz.ntmps44
   go_wp2_with ((with_reducible refine pX.out.mono ?_);rintro e w2 ⟨rfl,x2⟩;have X2:=aA x2;clear x2)
   go_ret2
   rw [qy.out]
   exact ⟨A,c,(by rw [← HL.out];rfl),by rw [← HL.out];exact HT.out.ext X2.out fun b hb=>.inl hb,X2.out⟩
  ·have qy:=aA (show iH rows true r most=(rows ++ [r],0) by unfold iH;rw [hi];show (if most≤rows.length then (rows,(31:Int)) else (rows ++ [r],0))=_;exact if_neg (by omega))
   have pT:¬ (most:Int)≤(n:Int):=by omega
   have HS:=aA hs;have HA:=aA ha
   obtain ⟨i0,eQ,hz0,hz1,eO⟩:=info_parts tU
   clear hi gE h hs ha hl hm
   go_enter Tryz.func44,Tryz.ntmps44
   go_upto_region 7 with ((with_reducible refine pX.out.mono ?_);rintro e w2 ⟨rfl,x2⟩;have X2:=aA x2;clear x2)
   have zfm:=(Kd rows A n c w2 (HT.out.ext X2.out (Q:=P) fun _ h=>h).lat (by omega) (fun r hr=>by have:=HS.out r hr;omega)).mono fun e w' hh=>Ep hh
   rw [← HL.out] at zfm
   have Vt:=aA zfm
   clear zfm
   go_wp2_with fail
   refine Vt.out.mono ?_
   rintro e w3 ⟨A3,c3,xs3,rfl,x3,own3,els3⟩
   have X3:=aA x3;have zgs:=aA own3;have zg0:=aA els3
   have yR:=aA (uZ r Ar m cr w3 (HA.out.ext (X2.out.trans x3)).at_ (by have:=HA.out.len;omega))
   clear x3 own3 els3 Vt
   go_wp2_with fail
   refine yR.out.mono ?_
   rintro e w4 ⟨A4,c4,rfl,o4,x4⟩
   have X4:=aA x4;have O4:=aA (bD.rb o4)
   have x5:=aD.alloc w4 (.cells #[.slice A4 m c4] 28)
   have zb8:=aA ((aL.new w4 28 #[.slice A4 m c4]).sl (n:=1) (size:=1) rfl)
   have E5:=aA x5
   have Jn:=aA (zgs.out.ext (x4.trans x5))
   have dG:=aA (show aQ [Value.slice A4 m c4] from fun v hv=>by simp at hv;rw [hv];rfl)
   clear x4 o4 x5 yR
   go_wp2_with (at_builtin;refine aI rfl (.tmp 24) (.tmp 27) _ rfl _ 28 i0 _ 1 24 Tryz.underlying36 eQ hz0 hz1 eO rfl (by omega) (.slice A3 n c3) n xs3 rfl Jn.out _ 1 1 _ rfl zb8.out dG.out (by unfold maxLen;omega) (by omega) ?_;intro A6 c6 w6 own6 G6 C6)
   go_ret2
   rw [qy.out]
   have h2:=X2.out.size;have h3:=X3.out.size;have h4:=X4.out.size;have h5:=E5.out.size
   have zjU:=X2.out.trans (X3.out.trans (X4.out.trans E5.out))
   have zen:aD w w6:=C6.out.ext zjU fun b hb=>by omega
   refine ⟨A6,c6,(by rw [List.length_append,← HL.out];rfl),?_,zen⟩
   have cZ:(rows ++ [r]).length=n+1:=by rw [List.length_append,← HL.out];rfl
   rw [cZ]
   refine ⟨cZ.symm,_,⟨own6.out.own,fun b hb=>.inr ⟨?_,own6.out.lt b hb⟩⟩,?_⟩
   ·rcases own6.out.inB b hb with hb | hb <;> omega
   ·have e1:gJ (RB (And' P w.heap.size w6.heap.size)) 1 w6 xs3 rows:=zg0.out.mono fun cs q hx=>by
     obtain ⟨A,n,c,e,ho⟩:=hx
     exact ⟨A,n,c,e,((ho.ext (X4.out.trans E5.out)).grown Jn.out.own (by decide) G6.out).mono fun b hb=>.inr ⟨by omega,by have:=C6.out.size;omega⟩⟩
    have e2:RB (And' P w.heap.size w6.heap.size) w6 [.slice A4 m c4] r:=by
     obtain ⟨A,n,c,e,ho⟩:=O4.out
     exact ⟨A,n,c,e,((ho.ext E5.out).grown Jn.out.own (by decide) G6.out).mono fun b hb=>.inr ⟨by omega,by have:=C6.out.size;omega⟩⟩
    exact e1.append (pN e2)
def Co (was:List Int) (rows:List (List V)) (r:List V):Int:=match jW r rows with
 | none=>0
 | some i=>was[i]?.getD 0
set_option maxRecDepth 100000 in
theorem Zm {w:World} {was:List Int} {Aw:Option Addr} {nw:Nat} {rows:List (List V)} {A Ar:Option Addr} {n m:Nat} {r:List V} (cw c cr:Nat) (hw:cB w Aw nw was) (h:pO nW 1 w A n rows) (hn:n≤65536) (hs:∀ s∈rows,s.length≤30) (hl:n≤nw) (ha:aW w Ar m r) :
 Calls Tryz.prog 47 #[.slice Aw nw cw,.slice A n c,.slice Ar m cr] w fun e w'=>e=.returned (.int .i64 (Co was rows r))∧aD w w':=by
 have pX:=aA (iU rows r A Ar n m c cr w h ha (by omega) (fun s hh=>by have:=hs s hh;omega))
 have gE:=pF r rows 0
 have zaf:=h.1
 cases hi:jW r rows with
 |none=>
  rw [hi] at gE
  rw [gE] at pX
  have zfG:=aA (show Co was rows r=0 by unfold Co;rw [hi])
  clear hi gE h hs ha zaf hw
  go_enter Tryz.func47,Tryz.ntmps47
  go_wp2_with ((with_reducible refine pX.out.mono ?_);rintro e w2 ⟨rfl,x2⟩;have X2:=aA x2;clear x2)
  go_ret
  exact ⟨by rw [zfG.out];rfl,X2.out⟩
 |some p=>
  rw [hi] at gE
  have gE:oJ r rows 0=(p:Int):=by rw [gE];simp
  have hp:p<n:=by have:=(List.getElem?_eq_some_iff.1 (iC hi)).1;omega
  rw [gE] at pX
  have zka:=hw.len
  obtain ⟨v,hv⟩ : ∃ v,was[p]?=some v:=⟨_,List.getElem?_eq_getElem (by omega)⟩
  have zfG:=aA (show Co was rows r=v by unfold Co;rw [hi];show was[p]?.getD 0=v;rw [hv];rfl)
  obtain ⟨b,off,rfl,hc⟩:=hw.2.2 (by omega)
  have k0:w.cell? ⟨b,off+p,none⟩=some (.int .i64 v):=hc p _ (by rw [List.getElem?_map,hv];rfl)
  have HK:=aA k0
  have Yz:¬ (p:Int)<0:=by omega
  have zkU:(p:Int)<(nw:Int):=by omega
  clear hi gE h hs ha zaf hw hc hv k0 zka
  go_enter Tryz.func47,Tryz.ntmps47
  go_wp2_with ((with_reducible refine pX.out.mono ?_);rintro e w2 ⟨rfl,x2⟩;have X2:=aA x2;have k2:=x2.cell HK.out;clear x2)
  go_ret
  exact ⟨by rw [zfG.out];rfl,X2.out⟩
theorem bU.after {P Q:Nat→Prop} {w w' w2:World} (h:bU P w w') (h2:bU Q w' w2) (hq:∀ b,P b→Q b):bU P w w2:=h.trans h2 fun b hb _ hp=>hb (hq b hp)
def jR (w:World) (P:Nat→Prop) (A:Option Addr) (c:Nat) (xs:List Nat):Prop:=aJ w P 3 1 xs.length (.slice A xs.length c) ((xs.map Int.ofNat).map (Value.int .i64))
section
variable {w w':World} {P Q:Nat→Prop} {A:Option Addr} {c:Nat} {xs:List Nat}
theorem jR.keep (h:jR w P A c xs) (hw:bU P w w') (hq:∀ b,P b→Q b):jR w' Q A c xs:=(aJ.chg h hw fun _ hb hn=>hn hb).mono hq
theorem jR.num (h:jR w P A c xs):cB w A xs.length (xs.map Int.ofNat):=cB.own h.own
theorem jR.nil (w:World) (P:Nat→Prop):jR w P none 0 []:=aJ.nil _ _ _ _
end
structure Dq where
 oA:Option Addr
 oC:Nat
 sA:Option Addr
 sC:Nat
 cA:Option Addr
 cC:Nat
 lA:Option Addr
 lC:Nat
structure jC (w:World) (P:Nat→Prop) (s:cR) (L:Dq):Prop where
 ons:cY w P L.oA s.ons.length L.oC s.ons
 sides:cY w P L.sA s.sides.length L.sC s.sides
 cnt:jR w P L.cA L.cC s.cnt
 live:cY w P L.lA s.live.length L.lC s.live
structure lS where
 kA:Option Addr
 kC:Nat
 sA:Option Addr
 sC:Nat
 uA:Option Addr
 uC:Nat
 a:Dq
 o:Dq
 so:cR
def Gt (K:NK) (a:cR) (m:Bool) (V:lS):Array Value:=#[.int .i64 (K.kind:Nat),.int .i64 (K.inn:Nat),.slice V.kA K.keep.length V.kC,.slice V.sA K.side.length V.sC,.slice V.uA K.up.length V.uC,.int .i64 (K.most:Nat),
 .slice V.a.oA a.ons.length V.a.oC,.slice V.a.sA a.sides.length V.a.sC,.slice V.a.cA a.cnt.length V.a.cC,.slice V.a.lA a.live.length V.a.lC,.bool m,
 .slice V.o.oA V.so.ons.length V.o.oC,.slice V.o.sA V.so.sides.length V.o.sC,.slice V.o.cA V.so.cnt.length V.o.cC,.slice V.o.lA V.so.live.length V.o.lC]
structure Nz (K:NK) (s:cR):Prop where
 ons:s.ons.length≤65536∧∀ r∈s.ons,r.length≤30
 sides:s.sides.length≤65536∧∀ r∈s.sides,r.length≤30
 live:s.live.length≤131072∧∀ r∈s.live,r.length≤30
 cnt:K.kind=2→s.cnt.length=s.ons.length
 cle:s.cnt.length≤131072∧∀ c∈s.cnt,c≤65536
theorem iS.onsLen {K:NK} (hK:fN K) {s:cR} (h:iS K s):s.ons.length≤65536:=Nat.le_trans h.most hK.most.2
theorem iS.onsSmall {K:NK} (hK:fN K) {s:cR} (h:iS K s):∀ r∈s.ons,r.length≤30:=fun r hr=>yX (h.ons r hr) hK.width
theorem iS.sidesLen {K:NK} (hK:fN K) {s:cR} (h:iS K s):s.sides.length≤65536:=Nat.le_trans h.smost hK.most.2
theorem iS.sidesSmall {K:NK} (hK:fN K) {s:cR} (h:iS K s):∀ r∈s.sides,r.length≤30:=fun r hr=>yX (h.sides r hr) hK.side.1
structure vV (w:World) (P:Nat→Prop) (d:Nat) (K:NK) (s:cR) (m:Bool) (U:lS):Prop where
 ok:fN K
 sz:Nz K s
 blk:aL w d 70 (Gt K s m U)
 inP:P d
 lt:∀ b,P b→b<w.heap.size
 keep:jR w P U.kA U.kC K.keep
 side:jR w P U.sA U.sC K.side
 up:jR w P U.uA U.uC K.up
 now:jC w P s U.a
structure tA (w:World) (P:Nat→Prop) (d:Nat) (K:NK) (a:aR) (U:lS):Prop where
 base:vV w P d K a.now a.old.isSome U
 nok:iS K a.now
 old:∀ o,a.old=some o→U.so=o∧jC w P o U.o∧iS K o∧Nz K o
def oT (w:World) (P:Nat→Prop) (d:Nat) (K:NK) (a:aR):Prop:=∃ U,tA w P d K a U
section
variable {w w':World} {P Q:Nat→Prop} {d:Nat} {K:NK} {a:aR} {U:lS} {s:cR} {m:Bool} {L:Dq}
theorem jC.keep (h:jC w P s L) (hw:bU P w w') (hq:∀ b,P b→Q b):jC w' Q s L:=⟨h.ons.keep hw hq,h.sides.keep hw hq,h.cnt.keep hw hq,h.live.keep hw hq⟩
theorem vV.keep_ (h:vV w P d K s m U) (hw:bU P w w') (hq:∀ b,P b→Q b) (hQ:∀ b,Q b→b<w'.heap.size):vV w' Q d K s m U:=
 ⟨h.ok,h.sz,hw.blk h.blk fun hn=>hn h.inP,hq d h.inP,hQ,h.keep.keep hw hq,h.side.keep hw hq,h.up.keep hw hq,h.now.keep hw hq⟩
theorem tA.keep_ (h:tA w P d K a U) (hw:bU P w w') (hq:∀ b,P b→Q b) (hQ:∀ b,Q b→b<w'.heap.size):tA w' Q d K a U:=
 ⟨h.base.keep_ hw hq hQ,h.nok,fun o ho=>⟨(h.old o ho).1,(h.old o ho).2.1.keep hw hq,(h.old o ho).2.2⟩⟩
theorem vV.ext (h:vV w P d K s m U) (hw:aD w w'):vV w' P d K s m U:=
 h.keep_ (aF.of hw) (fun _ hb=>hb) fun b hb=>Nat.lt_of_lt_of_le (h.lt b hb) hw.size
theorem iS.sz (hK:fN K) {s:cR} (h:iS K s) (hc:K.kind≠2→s.cnt=[]):Nz K s:=by
 refine ⟨⟨h.onsLen hK,h.onsSmall hK⟩,⟨h.sidesLen hK,h.sidesSmall hK⟩,⟨Nat.le_trans (h.liveLen hK) (by decide),h.liveSmall hK⟩,fun h2=>(h.cnt h2).1,?_⟩
 by_cases h2:K.kind=2
 ·have:=h.onsLen hK
  exact ⟨by rw [(h.cnt h2).1];omega,fun c hx=>((h.cnt h2).2 c hx).2⟩
 ·rw [hc h2];exact ⟨by decide,fun c hx=>by cases hx⟩
end
theorem dL.nums {b:Nat} {w:World} {A:Option Addr} {c:Nat} {xs:List Int} {ys:List Nat} (h:kD b w A c xs) (he:ys.map Int.ofNat=xs) {P:Nat→Prop} (hP:∀ x,b≤x→x<w.heap.size→P x):jR w P A c ys:=by
 subst he
 unfold jR
 unfold kD at h
 rw [List.length_map] at h
 exact ⟨dS h (Nat.zero_le _),fun g hg=>hP g (h.lt g hg).1 (h.lt g hg).2⟩
theorem Ib.doc {b:Nat} {w:World} {d:Nat} {s:SP} (h:Ib b w d s) (hg:s.good=true):oT w (fun x=>b≤x∧x<w.heap.size) d (dN s) fH:=by
 obtain ⟨L,h1,h2,h3,-⟩:=h
 have hF:=tH hg
 have k1:(dN s).keep.length=s.keep.length:=by rw [← wG hF,List.length_map]
 have k2:(dN s).side.length=s.side.length:=by rw [← wR hF,List.length_map]
 have k3:(dN s).up.length=s.up.length:=by rw [← Hf hF,List.length_map]
 have bC:d<w.heap.size:=(Array.getElem?_eq_some_iff.1 h1).1
 refine ⟨⟨L.kA,L.kC,L.sA,L.sC,L.uA,L.uC,⟨none,0,none,0,none,0,none,0⟩,⟨none,0,none,0,none,0,none,0⟩,⟨[],[],[],[]⟩⟩,⟨Y5 hF,iS.sz (Y5 hF) (iS.start _) fun _=>rfl,?_,⟨h3,bC⟩,fun x hx=>hx.2,dL.nums h2.keep (wG hF) fun x hx hl=>⟨hx,hl⟩,dL.nums h2.side (wR hF) fun x hx hl=>⟨hx,hl⟩,dL.nums h2.up (Hf hF) fun x hx hl=>⟨hx,hl⟩,⟨⟨rfl,[],aJ.nil _ _ _ _,.nil⟩,⟨rfl,[],aJ.nil _ _ _ _,.nil⟩,jR.nil _ _,⟨rfl,[],aJ.nil _ _ _ _,.nil⟩⟩⟩,iS.start _,fun o ho=>by cases ho⟩
 have e1:((dN s).kind:Int)=s.kind:=by have:=hF.kind;unfold dN;simp only;omega
 have e2:((dN s).inn:Int)=s.inn:=by have:=hF.inn;unfold dN;simp only;omega
 have e3:((dN s).most:Int)=s.most:=by have:=hF.most;unfold dN;simp only;omega
 have e4:Gt (dN s) fH.now fH.old.isSome ⟨L.kA,L.kC,L.sA,L.sC,L.uA,L.uC,⟨none,0,none,0,none,0,none,0⟩,⟨none,0,none,0,none,0,none,0⟩,⟨[],[],[],[]⟩⟩=We s L:=by
  unfold Gt We
  rw [e1,e2,e3,k1,k2,k3]
  rfl
 rw [e4]
 exact h1
end Go.Proofs.YtahdiiaadjdmcaaGreat
