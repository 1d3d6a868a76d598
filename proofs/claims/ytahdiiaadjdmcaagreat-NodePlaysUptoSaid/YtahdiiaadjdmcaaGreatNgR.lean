import Derived.Test.YtahdiiaadjdmcaaGreatNgP
namespace Go.Proofs.YtahdiiaadjdmcaaGreat
open Go.RowKit
theorem cY.grownI {w w':World} {P Q:Nat→Prop} {A:Option Addr} {n c:Nat} {rows:List (List V)} (h:cY w P A n c rows) {base:Nat} {v2:Value} {n2:Nat} {xs2:List Value} (h2:w.ownsRow base 3 1 v2 n2 xs2) (hg:w.grownBy w' v2.ownBlock) (hq:∀ b,P b→Q b):cY w' Q A n c rows:=by
 obtain ⟨h1,cells,h3,h4⟩:=h
 refine ⟨h1,cells,(h3.grown h2 (by decide) hg).mono hq,h4.mono fun cs r hx=>?_⟩
 obtain ⟨A,n,c,e,ho⟩:=hx
 exact ⟨A,n,c,e,(ho.grown h2 (by decide) hg).mono hq⟩
section
variable {w0 w w':World} {n l:Nat} {K:NK} {a:aR} {N:Nat} {P Q:Nat→Prop} {Aw:Option Addr} {nw cw:Nat} {R:List (List V)} {A:Option Addr} {m c:Nat} {xs:List Int}
end
def Fi (s:cR) (L:Dq):Array Value:=#[.slice L.oA s.ons.length L.oC,.slice L.sA s.sides.length L.sC,.slice L.cA s.cnt.length L.cC,.slice L.lA s.live.length L.lC]
def Cp:Array Value:=#[.slice none 0 0,.slice none 0 0,.slice none 0 0,.slice none 0 0]
def Rm (P:Nat→Prop) (w:World) (t:cR × Int) (e:Ending) (w':World):Prop:=∃ L,e=.returned (.tuple #[.agg (Fi t.1 L),.int .i64 t.2])∧jC w' (And' P w.heap.size w'.heap.size) t.1 L∧aD w w'
theorem iT {w:World} {g:Nat} {t:TypeId} {c0 c1 c2 c3:Value} (h:aL w g t #[c0,c1,c2,c3]) (a b c d:Value):aL ((((w.setCell ⟨g,0,none⟩ a).setCell ⟨g,1,none⟩ b).setCell ⟨g,2,none⟩ c).setCell ⟨g,3,none⟩ d) g t #[a,b,c,d]:=
 (((h.set_ 0 a).set_ 1 b).set_ 2 c).set_ 3 d
theorem An {w w1:World} {g:Nat} (h:aD w w1) (hg:w.heap.size≤g) (x0 x1 x2 x3:Value):aD w ((((w1.setCell ⟨g,0,none⟩ x0).setCell ⟨g,1,none⟩ x1).setCell ⟨g,2,none⟩ x2).setCell ⟨g,3,none⟩ x3):=
 (((h.setCell (p:=⟨g,0,none⟩) hg x0).setCell (p:=⟨g,1,none⟩) hg x1).setCell (p:=⟨g,2,none⟩) hg x2).setCell (p:=⟨g,3,none⟩) hg x3
theorem zR {w wF:World} {P:Nat→Prop} {s:cR} {L:Dq} {z:Int} (hS:jC w P s L) (hX:aD w wF):Rm P w (s,z) (.returned (.tuple #[.agg #[.slice L.oA s.ons.length L.oC,.slice L.sA s.sides.length L.sC,.slice L.cA s.cnt.length L.cC,.slice L.lA s.live.length L.lC],.int .i64 z])) wF:=
 ⟨L,rfl,hS.keep (aF.of hX) fun _ hb=>.inl hb,hX⟩
theorem rW {w wk wF:World} {P Q B:Nat→Prop} {s t:cR} {L:Dq} {g:Nat} {A A2:Option Addr} {c c2:Nat} (hS:jC w P s L) (hg:w.heap.size=g) (hX:aD w wk) (hC:aF (fun b=>b=g∨b=g+1) wk wF) (ho:cY wk Q A t.ons.length c t.ons) (hQ:∀ b,Q b→(P b∨w.heap.size≤b)∧b≠g∧b≠g+1∧b<wk.heap.size)
 (hn:aJ wk B 3 1 t.cnt.length (.slice A2 t.cnt.length c2) ((t.cnt.map Int.ofNat).map (Value.int .i64))) (hB:∀ b,B b→w.heap.size≤b∧b≠g∧b≠g+1) (h1:t.sides=s.sides:=by rfl) (h2:t.live=s.live:=by rfl):jC wF (And' P w.heap.size wF.heap.size) t ⟨A,c,L.sA,L.sC,A2,c2,L.lA,L.lC⟩∧aD w wF:=by
 have hF:aD w wF:=hC.ext hX fun b hb=>by omega
 have hs:=hC.size
 obtain ⟨t1,t2,t3,t4⟩:=t
 dsimp only at h1 h2 ho hn
 subst h1 h2
 have hn':=hn.chg hC fun b hb hh=>by have:=hB b hb;omega
 refine ⟨⟨ho.keep (hC.mono fun b hb _ hq=>by have:=hQ b hq;omega) fun b hb=>(hQ b hb).1.imp id fun hx=>⟨hx,by have:=(hQ b hb).2.2.2;omega⟩,hS.sides.ext hF fun b hb=>.inl hb,?_,hS.live.ext hF fun b hb=>.inl hb⟩,hF⟩
 exact ⟨hn'.own,fun b hb=>.inr ⟨(hB b (hn'.inB b hb)).1,hn'.lt b hb⟩⟩
theorem Ob {w:World} {P:Nat→Prop} {A:Option Addr} {c:Nat} {xs:List Nat} (h:jR w P A c xs) (hl:xs.length≤1048576) :
 Calls Tryz.prog 59 #[.slice A xs.length c] w fun e w'=>∃ A' c',e=.returned (.slice A' xs.length c')∧aJ w' (fun b=>w.heap.size≤b) 3 1 xs.length (.slice A' xs.length c') ((xs.map Int.ofNat).map (Value.int .i64))∧aD w w':=by
 refine (Kx _ A _ c w h.num (by omega)).mono ?_
 rintro e w' ⟨A',c',rfl,h1,h2⟩
 exact ⟨A',c',rfl,⟨dS h1 (Nat.zero_le _),fun g hg=>(h1.lt g hg).1⟩,h2⟩
theorem Xx {w:World} {B:Nat→Prop} {n c g:Nat} {xs:List Int} (h:aJ w B 3 1 n (.slice (some ⟨g,0,none⟩) n c) (xs.map (Value.int .i64))) (k:Nat) (hk:k≤n):Sl w (if c=k then some (⟨g,0,none⟩ : Addr) else some ⟨g,k,none⟩) (n - k) 1 ((xs.drop k).map (Value.int .i64))∧aQ ((xs.drop k).map (Value.int .i64)):=by
 have hl:=h.own.1
 rw [List.length_map,Nat.mul_one] at hl
 have hs:=Sl.own h.own
 have Ec:=h.cap.1
 refine ⟨⟨by rw [List.length_map,List.length_drop];omega,fun hn=>?_⟩,fun v hv=>?_⟩
 ·rw [if_neg (by omega)]
  obtain ⟨b,off,hA,hc⟩:=hs.2 (by omega)
  injection hA with hA
  injection hA with e1 e2
  subst e1 e2
  refine ⟨g,k,rfl,fun j u hu=>?_⟩
  rw [List.map_drop,List.getElem?_drop] at hu
  have:=hc (k+j) u hu
  rwa [Nat.zero_add] at this
 ·obtain ⟨x,-,rfl⟩:=List.mem_map.1 hv
  rfl
set_option maxRecDepth 100000 in
set_option maxHeartbeats 8000000 in
theorem Th {w:World} {P:Nat→Prop} {s:cR} {L:Dq} {own:List V} {Ao:Option Addr} (co:Nat) (on:Bool) {most:Nat} (hS:jC w P s L) (hz:s.ons.length≤65536∧∀ r∈s.ons,r.length≤30) (hc:s.cnt.length=s.ons.length) (hr:RB P w [.slice Ao own.length co] own) (qC:∀ c∈s.cnt,c≤65536) (hm:own.length≤30) (hP:∀ b,P b→b<w.heap.size) :
 Calls Tryz.prog 42 #[.agg (Fi s L),.bool on,.slice Ao own.length co,.int .i64 (most:Nat)] w (Rm P w (eY s on own most)):=by
 obtain ⟨g,hg⟩ : ∃ g,w.heap.size=g:=⟨_,rfl⟩
 obtain ⟨w0,Ce⟩ : ∃ w0,(w.alloc (.cells (Fi s L) 66)).alloc (.cells Cp 66)=w0:=⟨_,rfl⟩
 have hb:=(aL.new w 66 (Fi s L)).ext (aD.alloc _ (.cells Cp 66))
 have zdd:=aL.new (w.alloc (.cells (Fi s L) 66)) 66 Cp
 have he:=(aD.alloc w (.cells (Fi s L) 66)).alloc' (.cells Cp 66)
 have zhI:w0.heap.size=g+2:=by rw [← Ce];simp;omega
 rw [World.size_alloc] at zdd
 rw [Ce] at hb he zdd
 rw [hg] at hb zdd
 have HE:=aA he;have HB:=aA hb;have HZ:=aA zdd;have lT:=aA hg;have HS:=aA hS;have HN:=aA hz;have HC:=aA hc;have HR:=aA hr;have HM:=aA hm;have HX:=aA hP;have zeN:=aA zhI
 have b0:w0.cell? ⟨g,0,none⟩=some (.slice L.oA s.ons.length L.oC):=hb.cell 0
 obtain ⟨z,hz⟩ : ∃ z,oJ own s.ons 0=z:=⟨_,rfl⟩
 have Dk:=iU s.ons own L.oA Ao s.ons.length own.length L.oC co w0 (hS.ons.ext he (Q:=P) fun _ h=>h).lat ((RB.at_ hr).ext he) (by have:=HN.out.1;omega) (fun q hq=>by have:=HN.out.2 q hq;omega)
 rw [hz] at Dk
 have pX:=aA Dk;have Bu:=aA hz
 clear hS hc hr hm hP hb he zdd hz Dk zhI
 unfold Fi at *
 unfold Cp at *
 go_enter Tryz.func42,Tryz.ntmps42
 go_upto_region 1 with fail
 have b0:=aB b0
 go_upto_region 2 with ((with_reducible refine pX.out.mono ?_);rintro e w2 ⟨rfl,x2⟩;have X2:=aA (HE.out.trans x2);have Vi:=aA (HB.out.ext x2);have zcD:=aA (HZ.out.ext x2);have tP:=aA (show g+2≤w2.heap.size from by have:=x2.size;have:=zeN.out;omega);clear x2)
 have c2:_=some (Value.slice L.cA s.cnt.length L.cC):=Vi.out.cell 2
 have Rh:=aA (Ob (HS.out.cnt.keep (aF.of X2.out) (Q:=P) fun _ h=>h) (by have:=HC.out;have:=HN.out.1;omega))
 clear b0 pX
 go_upto_region 3 with ((with_reducible refine Rh.out.mono ?_);rintro e w3 ⟨A3,c3,rfl,o3,x3⟩;have X3:=aA (X2.out.trans x3);have yS:=aA (Vi.out.ext x3);have tM:=aA (zcD.out.ext x3);have O3:=aA o3;have Me:=aA (show w2.heap.size≤w3.heap.size from x3.size);clear x3 o3)
 have gE:=pF own s.ons 0
 rw [Bu.out] at gE
 clear c2 Rh hg Ce HB HZ HE zeN Vi zcD X2
 cases hi:jW own s.ons with
 |none=>
  rw [hi] at gE
  obtain rfl:z = -1:=gE
  have HI:=aA hi
  clear hi
  cases on with
  |false=>
   have xI:=aA (show eY s false own most=(s,192) from by unfold eY;rw [HI.out];rfl)
   have b0:_=some (Value.slice L.oA s.ons.length L.oC):=yS.out.cell 0
   have b1:_=some (Value.slice L.sA s.sides.length L.sC):=yS.out.cell 1
   have b2:_=some (Value.slice L.cA s.cnt.length L.cC):=yS.out.cell 2
   have b3:_=some (Value.slice L.lA s.live.length L.lC):=yS.out.cell 3
   have z0:_=some (Value.slice none 0 0):=tM.out.cell 0
   have z1:_=some (Value.slice none 0 0):=tM.out.cell 1
   have z2:_=some (Value.slice none 0 0):=tM.out.cell 2
   have z3:_=some (Value.slice none 0 0):=tM.out.cell 3
   have f0:=tM.out.frozen 0;have f1:=tM.out.frozen 1;have f2:=tM.out.frozen 2;have f3:=tM.out.frozen 3
   clear Me
   go_wp2_with fail
   have R:=iT tM.out (Value.slice L.oA s.ons.length L.oC) (Value.slice L.sA s.sides.length L.sC) (Value.slice L.cA s.cnt.length L.cC) (Value.slice L.lA s.live.length L.lC)
   have r0:=R.cell 0;have r1:=R.cell 1;have r2:=R.cell 2;have r3:=R.cell 3
   refine bodyPost_ret (v:=.tuple #[.agg #[Value.slice L.oA s.ons.length L.oC,Value.slice L.sA s.sides.length L.sC,Value.slice L.cA s.cnt.length L.cC,Value.slice L.lA s.live.length L.lC],.int .i64 192]) (by simp [results,Tryz.results42,go_sem,r0,r1,r2,r3]) rfl ?_
   rw [xI.out]
   exact zR HS.out (An X3.out (by have:=lT.out;omega) _ _ _ _)
  |true=>
   by_cases hmo:most≤s.ons.length
   ·have xI:=aA (show eY s true own most=(s,31) from by unfold eY;rw [HI.out];exact if_pos hmo)
    have pT:(most:Int)≤(s.ons.length:Nat):=by omega
    have c0:_=some (Value.slice L.oA s.ons.length L.oC):=yS.out.cell 0
    have b0:_=some (Value.slice L.oA s.ons.length L.oC):=yS.out.cell 0
    have b1:_=some (Value.slice L.sA s.sides.length L.sC):=yS.out.cell 1
    have b2:_=some (Value.slice L.cA s.cnt.length L.cC):=yS.out.cell 2
    have b3:_=some (Value.slice L.lA s.live.length L.lC):=yS.out.cell 3
    have z0:_=some (Value.slice none 0 0):=tM.out.cell 0
    have z1:_=some (Value.slice none 0 0):=tM.out.cell 1
    have z2:_=some (Value.slice none 0 0):=tM.out.cell 2
    have z3:_=some (Value.slice none 0 0):=tM.out.cell 3
    have f0:=tM.out.frozen 0;have f1:=tM.out.frozen 1;have f2:=tM.out.frozen 2;have f3:=tM.out.frozen 3
    clear Me
    go_wp2_with fail
    have R:=iT tM.out (Value.slice L.oA s.ons.length L.oC) (Value.slice L.sA s.sides.length L.sC) (Value.slice L.cA s.cnt.length L.cC) (Value.slice L.lA s.live.length L.lC)
    have r0:=R.cell 0;have r1:=R.cell 1;have r2:=R.cell 2;have r3:=R.cell 3
    refine bodyPost_ret (v:=.tuple #[.agg #[Value.slice L.oA s.ons.length L.oC,Value.slice L.sA s.sides.length L.sC,Value.slice L.cA s.cnt.length L.cC,Value.slice L.lA s.live.length L.lC],.int .i64 31]) (by simp [results,Tryz.results42,go_sem,r0,r1,r2,r3]) rfl ?_
    rw [xI.out]
    exact zR HS.out (An X3.out (by have:=lT.out;omega) _ _ _ _)
   ·have xI:=aA (show eY s true own most=({s with ons:=s.ons ++ [own],cnt:=s.cnt ++ [1]},0) from by unfold eY;rw [HI.out];exact if_neg hmo)
    have pT:¬ (most:Int)≤(s.ons.length:Nat):=by omega
    have c0:_=some (Value.slice L.oA s.ons.length L.oC):=yS.out.cell 0
    have Vt:=aA ((Kd s.ons L.oA s.ons.length L.oC w3 (HS.out.ons.ext X3.out (Q:=P) fun _ h=>h).lat (by have:=HN.out.1;omega) (fun q hq=>by have:=HN.out.2 q hq;omega)).mono fun e w' hh=>Ep hh)
    obtain ⟨i0,eQ,hz0,hz1,eO⟩:=info_parts tU
    have j8:=HN.out.1
    go_upto_region 11 with (first
     | ((with_reducible refine Vt.out.mono ?_);rintro e w4 ⟨A4,c4,xs4,rfl,x4,own4,els4⟩;have x5:=x4.alloc' (.cells #[.slice Ao own.length co] 28);have zb8:=aA ((aL.new w4 28 #[.slice Ao own.length co]).sl (n:=1) (size:=1) rfl);have X5:=aA x5;have Jn:=aA (own4.ext (aD.alloc w4 (.cells #[.slice Ao own.length co] 28)));have zd0:=aA (els4.mono fun cs r hr=>RB.keep hr (aF.of (aD.alloc w4 (.cells #[.slice Ao own.length co] 28))) fun _ h=>h);have dG:=aA (show aQ [Value.slice Ao own.length co] from fun v hv=>by simp at hv;rw [hv];rfl);have zgv:=aA x4.size;clear x4 own4 els4 x5)
     | (at_builtin;refine aI rfl (.tmp 45) (.tmp 47) _ rfl _ 28 i0 _ 1 24 Tryz.underlying36 eQ hz0 hz1 eO rfl (by omega) (.slice A4 s.ons.length c4) s.ons.length xs4 rfl Jn.out _ 1 1 _ rfl zb8.out dG.out (by unfold maxLen;omega) (by omega) ?_;intro A6 c6 w6 own6 G6 C6;have Ψ:=aA (C6.out.blk (yS.out.ext X5.out) (by have:=tP.out;have:=Me.out;omega));have f0:=Ψ.out.frozen 0;have e0:_=some (Value.slice L.oA s.ons.length L.oC):=Ψ.out.cell 0))
    have zit:=aA (C6.out.blk (tM.out.ext X5.out) (by have:=tP.out;have:=Me.out;omega))
    have h5:=X5.out.size
    have zen:aD w w6:=C6.out.ext (X3.out.trans X5.out) fun b hb=>by have:=tP.out;have:=Me.out;have:=lT.out;omega
    have zcs:=C6.out.size
    have T6:=aA (show cY w6 (fun b=>P b∨(w3.heap.size≤b∧b<w6.heap.size)) A6 (s.ons.length+1) c6 (s.ons ++ [own]) from by
     refine ⟨by rw [List.length_append];rfl,_,⟨own6.out.own,fun b hb=>.inr ⟨?_,own6.out.lt b hb⟩⟩,?_⟩
     ·rcases own6.out.inB b hb with hb | hb
      ·exact hb.1
      ·have:=zgv.out;simp at hb;omega
     ·have hK:bU P w w6:=aF.of zen
      have e1:gJ (RB fun b=>P b∨(w3.heap.size≤b∧b<w6.heap.size)) 1 w6 xs4 s.ons:=zd0.out.mono fun cs q hx=>(RB.grown hx Jn.out.own G6.out (Q:=fun b=>P b∨(w3.heap.size≤b∧b<w6.heap.size)) fun b hb=>.inr ⟨hb.1,by have:=hb.2;simp at zcs;omega⟩)
      exact e1.append (pN (RB.keep HR.out hK fun b hb=>.inl hb)))
    have O6:=aA ((O3.out.ext X5.out).grown Jn.out.own (by decide) G6.out)
    have x6:=zen.setCell (p:=⟨g,0,none⟩) (by show w.heap.size≤g;have:=lT.out;omega) (.slice A6 (s.ons.length+1) c6)
    have zhy:=Ψ.out.set_ 0 (.slice A6 (s.ons.length+1) c6)
    have zi0:=zit.out.far (p:=⟨g,0,none⟩) (by show g+1≠g;omega) (.slice A6 (s.ons.length+1) c6)
    have C7:=(aF.refl (fun b=>b=g) w6).setCell (p:=⟨g,0,none⟩) (.inl rfl) (.slice A6 (s.ons.length+1) c6)
    have T7:=aA (T6.out.keep (C7.mono fun b hb _ hp=>by
     rcases hp with hp | hp
     ·have:=HX.out b hp;have:=lT.out;omega
     ·have:=tP.out;have:=Me.out;omega) fun _ h=>h)
    have O7:=aA (O6.out.chg C7 fun b hb hh=>by have:=tP.out;omega)
    have X7:=aA x6;have zct:=aA (show aL _ g 66 #[.slice A6 (s.ons.length+1) c6,.slice L.sA s.sides.length L.sC,.slice L.cA s.cnt.length L.cC,.slice L.lA s.live.length L.lC] from zhy);have zhT:=aA zi0
    have xh:=aA (show w6.heap.size=(w6.setCell ⟨g,0,none⟩ (.slice A6 (s.ons.length+1) c6)).heap.size∧w3.heap.size≤w6.heap.size from ⟨by simp,by have:=zgv.out;simp at zcs;omega⟩)
    clear h5 zcs x6 zhy zi0 C7 T6 O6 zen own6 G6 C6 Ψ zit f0 e0 zb8 Jn zd0 X5 dG zgv Vt eQ hz0 hz1 eO c0
    generalize hw7:w6.setCell ⟨g,0,none⟩ (.slice A6 (s.ons.length+1) c6)=w7 at *
    clear hw7
    obtain ⟨i1,zbr,hy0,hy1,zb4⟩:=info_parts rB
    have zbU:s.cnt.length≤65536:=by have:=HC.out;omega
    have x8:=aD.alloc w7 (.cells #[.int .i64 1] 3)
    have zaB:=aA ((aL.new w7 3 #[.int .i64 1]).sl (n:=1) (size:=1) rfl)
    have X8:=aA x8;have O8:=aA (O7.out.ext x8)
    have dG:=aA (show aQ [Value.int .i64 1] from fun v hv=>by simp at hv;rw [hv];rfl)
    clear x8
    go_upto_region 18 with (at_builtin;refine aI rfl (.tmp 50) (.tmp 51) _ rfl _ 3 i1 _ 1 8 Tryz.underlying23 zbr hy0 hy1 zb4 rfl (by omega) (.slice A3 s.cnt.length c3) s.cnt.length _ rfl O8.out _ 1 1 _ rfl zaB.out dG.out (by unfold maxLen;omega) (by omega) ?_;intro A9 c9 w9 own9 G9 C9)
    have zai:=C9.out.size
    have h8:=X8.out.size
    have uG:=aA (C9.out.blk (zct.out.ext X8.out) (by have:=tP.out;omega));have pP:=aA (C9.out.blk (zhT.out.ext X8.out) (by have:=tP.out;omega))
    have XK:=aA (C9.out.ext (X7.out.trans X8.out) fun b hb=>by have:=tP.out;have:=lT.out;omega)
    have TK:=aA (show cY w9 (fun b=>P b∨(w3.heap.size≤b∧b<w6.heap.size)) A6 (s.ons.length+1) c6 (s.ons ++ [own]) from (T7.out.ext X8.out (Q:=fun b=>P b∨(w3.heap.size≤b∧b<w6.heap.size)) fun _ h=>h).grownI O8.out.own G9.out fun _ h=>h)
    have OK:=aA own9.out
    have H9:=aA (show w7.heap.size≤w9.heap.size from by omega)
    have H8:=aA (show g+2≤(w7.alloc (.cells #[.int .i64 1] 3)).heap.size from by have:=xh.out;have:=tP.out;have:=Me.out;omega)
    clear zai h8 own9 G9 C9 X8 O8 zaB T7 O7 X7 zct zhT zbr hy0 hy1 zb4 dG
    have b0:_=some (Value.slice A6 (s.ons.length+1) c6):=uG.out.cell 0
    have b1:_=some (Value.slice L.sA s.sides.length L.sC):=uG.out.cell 1
    have b2:_=some (Value.slice L.cA s.cnt.length L.cC):=uG.out.cell 2
    have b3:_=some (Value.slice L.lA s.live.length L.lC):=uG.out.cell 3
    have z0:_=some (Value.slice none 0 0):=pP.out.cell 0
    have z1:_=some (Value.slice none 0 0):=pP.out.cell 1
    have z2:_=some (Value.slice none 0 0):=pP.out.cell 2
    have z3:_=some (Value.slice none 0 0):=pP.out.cell 3
    have h2:=uG.out.frozen 2
    have f0:=pP.out.frozen 0;have f1:=pP.out.frozen 1;have f2:=pP.out.frozen 2;have f3:=pP.out.frozen 3
    go_wp2_with fail
    have R:=iT (pP.out.far (p:=⟨g,2,none⟩) (by show g+1≠g;omega) (Value.slice A9 (s.cnt.length+1) c9)) (Value.slice A6 (s.ons.length+1) c6) (Value.slice L.sA s.sides.length L.sC) (Value.slice A9 (s.cnt.length+1) c9) (Value.slice L.lA s.live.length L.lC)
    have r0:=R.cell 0;have r1:=R.cell 1;have r2:=R.cell 2;have r3:=R.cell 3
    refine bodyPost_ret (v:=.tuple #[.agg #[Value.slice A6 (s.ons.length+1) c6,Value.slice L.sA s.sides.length L.sC,Value.slice A9 (s.cnt.length+1) c9,Value.slice L.lA s.live.length L.lC],.int .i64 0]) (by simp [results,Tryz.results42,go_sem,r0,r1,r2,r3]) rfl ?_
    rw [xI.out]
    have C5:=((((((aF.refl (fun b=>b=g∨b=g+1) w9).setCell (p:=⟨g,2,none⟩) (.inl (.inl rfl)) (Value.slice A9 (s.cnt.length+1) c9)).setCell (p:=⟨g+1,0,none⟩) (.inl (.inr rfl)) (Value.slice A6 (s.ons.length+1) c6)).setCell (p:=⟨g+1,1,none⟩) (.inl (.inr rfl)) (Value.slice L.sA s.sides.length L.sC)).setCell (p:=⟨g+1,2,none⟩) (.inl (.inr rfl)) (Value.slice A9 (s.cnt.length+1) c9)).setCell (p:=⟨g+1,3,none⟩) (.inl (.inr rfl)) (Value.slice L.lA s.live.length L.lC))
    refine ⟨⟨A6,c6,L.sA,L.sC,A9,c9,L.lA,L.lC⟩,?_,?_⟩
    ·unfold Fi;simp only [List.length_append,List.length_cons,List.length_nil]
    ·refine rW (t:={s with ons:=s.ons ++ [own],cnt:=s.cnt ++ [1]}) HS.out lT.out XK.out C5 (Q:=fun b=>P b∨(w3.heap.size≤b∧b<w6.heap.size)) (B:=fun b=>w2.heap.size≤b∨b=(w7.alloc (.cells #[.int .i64 1] 3)).heap.size) ?_ ?_ ?_ ?_
     ·show cY _ _ A6 (s.ons ++ [own]).length c6 _
      rw [List.length_append];exact TK.out
     ·intro b hb
      have:=lT.out;have:=tP.out;have:=Me.out;have:=xh.out;have:=H9.out
      rcases hb with hb | hb
      ·have:=HX.out b hb;exact ⟨.inl hb,by omega,by omega,by omega⟩
      ·exact ⟨.inr (by omega),by omega,by omega,by omega⟩
     ·show aJ _ _ 3 1 (s.cnt ++ [1]).length (.slice A9 (s.cnt ++ [1]).length c9) _
      have h9:=OK.out
      rw [List.length_append,List.map_append,List.map_append];exact h9
     ·intro b hb
      have:=lT.out;have:=tP.out;have:=H8.out
      rcases hb with hb | hb <;> omega
 |some p=>
  rw [hi] at gE
  have zgZ:z=(p:Int):=by rw [gE];simp
  clear gE
  subst zgZ
  have hp:p<s.ons.length:=(List.getElem?_eq_some_iff.1 (iC hi)).1
  obtain ⟨v,hv⟩ : ∃ v,s.cnt[p]?=some v:=⟨_,List.getElem?_eq_getElem (by have:=HC.out;omega)⟩
  have ziG:s.cnt[p]?.getD 0=v:=by rw [hv];rfl
  obtain ⟨g3,rfl,zhd,zeC,Cq,hf3⟩:=O3.out.at_ (by have:=HC.out;omega)
  have k3:w3.cell? ⟨g3,p,none⟩=some (.int .i64 (v:Nat)):=Cq p _ (by rw [List.getElem?_map,List.getElem?_map,hv];rfl)
  have n_:=qC v (List.mem_of_getElem? hv)
  have HI:=aA hi;have zeX:=aA ziG;have zcw:=aA zhd;have zb0:=aA zeC;have Mc:=aA hp;have HV:=aA hv
  have D_:(p:Int)<(s.cnt.length:Nat):=by have:=HC.out;omega
  have Yz:0≤(p:Int):=by omega
  have ff:=hf3 p
  clear qC
  clear hi hv ziG zhd zeC Cq hf3 hp
  cases on with
  |true=>
   by_cases hvm:65536≤v
   ·have xI:=aA (show eY s true own most=(s,31) from by unfold eY;rw [HI.out];simp only [zeX.out];rw [if_pos trivial,if_pos hvm])
    have Nf:(65536:Int)≤(v:Nat):=by omega
    have b0:_=some (Value.slice L.oA s.ons.length L.oC):=yS.out.cell 0
    have b1:_=some (Value.slice L.sA s.sides.length L.sC):=yS.out.cell 1
    have b2:_=some (Value.slice L.cA s.cnt.length L.cC):=yS.out.cell 2
    have b3:_=some (Value.slice L.lA s.live.length L.lC):=yS.out.cell 3
    have z0:_=some (Value.slice none 0 0):=tM.out.cell 0
    have z1:_=some (Value.slice none 0 0):=tM.out.cell 1
    have z2:_=some (Value.slice none 0 0):=tM.out.cell 2
    have z3:_=some (Value.slice none 0 0):=tM.out.cell 3
    have f0:=tM.out.frozen 0;have f1:=tM.out.frozen 1;have f2:=tM.out.frozen 2;have f3:=tM.out.frozen 3
    clear Me
    go_wp2_with fail
    have R:=iT tM.out (Value.slice L.oA s.ons.length L.oC) (Value.slice L.sA s.sides.length L.sC) (Value.slice L.cA s.cnt.length L.cC) (Value.slice L.lA s.live.length L.lC)
    have r0:=R.cell 0;have r1:=R.cell 1;have r2:=R.cell 2;have r3:=R.cell 3
    refine bodyPost_ret (v:=.tuple #[.agg #[Value.slice L.oA s.ons.length L.oC,Value.slice L.sA s.sides.length L.sC,Value.slice L.cA s.cnt.length L.cC,Value.slice L.lA s.live.length L.lC],.int .i64 31]) (by simp [results,Tryz.results42,go_sem,r0,r1,r2,r3]) rfl ?_
    rw [xI.out]
    exact zR HS.out (An X3.out (by have:=lT.out;omega) _ _ _ _)
   ·have Nf:decide ((65536:Int)≤((v:Nat):Int))=false:=decide_eq_false (by omega)
    have xI:=aA (show eY s true own most=({s with cnt:=s.cnt.set p (v+1)},0) from by unfold eY;rw [HI.out];simp only [zeX.out];rw [if_pos trivial,if_neg hvm])
    obtain ⟨v1,hv1⟩ : ∃ v1,v+1=v1:=⟨_,rfl⟩
    rw [hv1] at xI
    have aT:IntKind.i64.wrap (((v:Nat):Int)+1)=(v1:Int):=by rw [IntWalk.i64_in _ (by omega)];omega
    clear hv1
    have uG:=aA (yS.out.far (p:=⟨g3,p,none⟩) (by show g≠g3;have:=zcw.out;have:=tP.out;omega) (.int .i64 (v1:Nat)))
    have pP:=aA (tM.out.far (p:=⟨g3,p,none⟩) (by show g+1≠g3;have:=zcw.out;have:=tP.out;omega) (.int .i64 (v1:Nat)))
    have XK:=aA (X3.out.setCell (p:=⟨g3,p,none⟩) (by show w.heap.size≤g3;have:=zcw.out;have:=tP.out;have:=lT.out;omega) (.int .i64 (v1:Nat)))
    have OK:=aA (O3.out.put p (.int .i64 (v1:Nat)))
    go_upto_region 18 with fail
    generalize hwk:w3.setCell ⟨g3,p,none⟩ (.int .i64 (v1:Nat))=wk at *
    clear hwk k3 ff
    have b0:_=some (Value.slice L.oA s.ons.length L.oC):=uG.out.cell 0
    have b1:_=some (Value.slice L.sA s.sides.length L.sC):=uG.out.cell 1
    have b2:_=some (Value.slice L.cA s.cnt.length L.cC):=uG.out.cell 2
    have b3:_=some (Value.slice L.lA s.live.length L.lC):=uG.out.cell 3
    have z0:_=some (Value.slice none 0 0):=pP.out.cell 0
    have z1:_=some (Value.slice none 0 0):=pP.out.cell 1
    have z2:_=some (Value.slice none 0 0):=pP.out.cell 2
    have z3:_=some (Value.slice none 0 0):=pP.out.cell 3
    have h2:=uG.out.frozen 2
    have f0:=pP.out.frozen 0;have f1:=pP.out.frozen 1;have f2:=pP.out.frozen 2;have f3:=pP.out.frozen 3
    go_wp2_with fail
    have R:=iT (pP.out.far (p:=⟨g,2,none⟩) (by show g+1≠g;omega) (Value.slice (some ⟨g3,0,none⟩) s.cnt.length c3)) (Value.slice L.oA s.ons.length L.oC) (Value.slice L.sA s.sides.length L.sC) (Value.slice (some ⟨g3,0,none⟩) s.cnt.length c3) (Value.slice L.lA s.live.length L.lC)
    have r0:=R.cell 0;have r1:=R.cell 1;have r2:=R.cell 2;have r3:=R.cell 3
    refine bodyPost_ret (v:=.tuple #[.agg #[Value.slice L.oA s.ons.length L.oC,Value.slice L.sA s.sides.length L.sC,Value.slice (some ⟨g3,0,none⟩) s.cnt.length c3,Value.slice L.lA s.live.length L.lC],.int .i64 0]) (by simp [results,Tryz.results42,go_sem,r0,r1,r2,r3]) rfl ?_
    rw [xI.out]
    have C5:=((((((aF.refl (fun b=>b=g∨b=g+1) wk).setCell (p:=⟨g,2,none⟩) (.inl (.inl rfl)) (Value.slice (some ⟨g3,0,none⟩) s.cnt.length c3)).setCell (p:=⟨g+1,0,none⟩) (.inl (.inr rfl)) (Value.slice L.oA s.ons.length L.oC)).setCell (p:=⟨g+1,1,none⟩) (.inl (.inr rfl)) (Value.slice L.sA s.sides.length L.sC)).setCell (p:=⟨g+1,2,none⟩) (.inl (.inr rfl)) (Value.slice (some ⟨g3,0,none⟩) s.cnt.length c3)).setCell (p:=⟨g+1,3,none⟩) (.inl (.inr rfl)) (Value.slice L.lA s.live.length L.lC))
    refine ⟨⟨L.oA,L.oC,L.sA,L.sC,some ⟨g3,0,none⟩,c3,L.lA,L.lC⟩,?_,?_⟩
    ·unfold Fi;simp only [List.length_set]
    ·exact rW HS.out lT.out XK.out C5 (HS.out.ons.ext XK.out (Q:=P) fun _ h=>h) (fun b hb=>⟨.inl hb,by have:=HX.out b hb;have:=lT.out;omega,by have:=HX.out b hb;have:=lT.out;omega,Nat.lt_of_lt_of_le (HX.out b hb) XK.out.size⟩) (by
      have ho:=OK.out
      simp only [List.length_set,List.map_set]
      exact ho) (fun b hb=>by have:=tP.out;have:=lT.out;omega) rfl rfl
  |false=>
   by_cases hvm:1<v
   ·have Nf:(1:Int)<(v:Nat):=by omega
    have xI:=aA (show eY s false own most=({s with cnt:=s.cnt.set p (v - 1)},0) from by unfold eY;rw [HI.out];simp only [zeX.out];rw [if_neg Bool.false_ne_true,if_pos hvm])
    obtain ⟨v1,hv1⟩ : ∃ v1,v - 1=v1:=⟨_,rfl⟩
    rw [hv1] at xI
    have aT:IntKind.i64.wrap (((v:Nat):Int) - 1)=(v1:Int):=by rw [IntWalk.i64_in _ (by omega)];omega
    clear hv1
    have uG:=aA (yS.out.far (p:=⟨g3,p,none⟩) (by show g≠g3;have:=zcw.out;have:=tP.out;omega) (.int .i64 (v1:Nat)))
    have pP:=aA (tM.out.far (p:=⟨g3,p,none⟩) (by show g+1≠g3;have:=zcw.out;have:=tP.out;omega) (.int .i64 (v1:Nat)))
    have XK:=aA (X3.out.setCell (p:=⟨g3,p,none⟩) (by show w.heap.size≤g3;have:=zcw.out;have:=tP.out;have:=lT.out;omega) (.int .i64 (v1:Nat)))
    have OK:=aA (O3.out.put p (.int .i64 (v1:Nat)))
    go_upto_region 18 with fail
    generalize hwk:w3.setCell ⟨g3,p,none⟩ (.int .i64 (v1:Nat))=wk at *
    clear hwk k3 ff
    have b0:_=some (Value.slice L.oA s.ons.length L.oC):=uG.out.cell 0
    have b1:_=some (Value.slice L.sA s.sides.length L.sC):=uG.out.cell 1
    have b2:_=some (Value.slice L.cA s.cnt.length L.cC):=uG.out.cell 2
    have b3:_=some (Value.slice L.lA s.live.length L.lC):=uG.out.cell 3
    have z0:_=some (Value.slice none 0 0):=pP.out.cell 0
    have z1:_=some (Value.slice none 0 0):=pP.out.cell 1
    have z2:_=some (Value.slice none 0 0):=pP.out.cell 2
    have z3:_=some (Value.slice none 0 0):=pP.out.cell 3
    have h2:=uG.out.frozen 2
    have f0:=pP.out.frozen 0;have f1:=pP.out.frozen 1;have f2:=pP.out.frozen 2;have f3:=pP.out.frozen 3
    go_wp2_with fail
    have R:=iT (pP.out.far (p:=⟨g,2,none⟩) (by show g+1≠g;omega) (Value.slice (some ⟨g3,0,none⟩) s.cnt.length c3)) (Value.slice L.oA s.ons.length L.oC) (Value.slice L.sA s.sides.length L.sC) (Value.slice (some ⟨g3,0,none⟩) s.cnt.length c3) (Value.slice L.lA s.live.length L.lC)
    have r0:=R.cell 0;have r1:=R.cell 1;have r2:=R.cell 2;have r3:=R.cell 3
    refine bodyPost_ret (v:=.tuple #[.agg #[Value.slice L.oA s.ons.length L.oC,Value.slice L.sA s.sides.length L.sC,Value.slice (some ⟨g3,0,none⟩) s.cnt.length c3,Value.slice L.lA s.live.length L.lC],.int .i64 0]) (by simp [results,Tryz.results42,go_sem,r0,r1,r2,r3]) rfl ?_
    rw [xI.out]
    have C5:=((((((aF.refl (fun b=>b=g∨b=g+1) wk).setCell (p:=⟨g,2,none⟩) (.inl (.inl rfl)) (Value.slice (some ⟨g3,0,none⟩) s.cnt.length c3)).setCell (p:=⟨g+1,0,none⟩) (.inl (.inr rfl)) (Value.slice L.oA s.ons.length L.oC)).setCell (p:=⟨g+1,1,none⟩) (.inl (.inr rfl)) (Value.slice L.sA s.sides.length L.sC)).setCell (p:=⟨g+1,2,none⟩) (.inl (.inr rfl)) (Value.slice (some ⟨g3,0,none⟩) s.cnt.length c3)).setCell (p:=⟨g+1,3,none⟩) (.inl (.inr rfl)) (Value.slice L.lA s.live.length L.lC))
    refine ⟨⟨L.oA,L.oC,L.sA,L.sC,some ⟨g3,0,none⟩,c3,L.lA,L.lC⟩,?_,?_⟩
    ·unfold Fi;simp only [List.length_set]
    ·exact rW HS.out lT.out XK.out C5 (HS.out.ons.ext XK.out (Q:=P) fun _ h=>h) (fun b hb=>⟨.inl hb,by have:=HX.out b hb;have:=lT.out;omega,by have:=HX.out b hb;have:=lT.out;omega,Nat.lt_of_lt_of_le (HX.out b hb) XK.out.size⟩) (by
      have ho:=OK.out
      simp only [List.length_set,List.map_set]
      exact ho) (fun b hb=>by have:=tP.out;have:=lT.out;omega) rfl rfl
   ·have Nf:¬ (1:Int)<(v:Nat):=by omega
    have xI:=aA (show eY s false own most=({s with ons:=s.ons.eraseIdx p,cnt:=s.cnt.eraseIdx p},0) from by unfold eY;rw [HI.out];simp only [zeX.out];rw [if_neg Bool.false_ne_true,if_neg hvm])
    have zf0:=aA (yE (HS.out.ons.ext X3.out (Q:=P) fun _ h=>h) Mc.out (by have:=HN.out.1;omega) fun b hb=>Nat.lt_of_lt_of_le (HX.out b hb) X3.out.size)
    have zjV:=aA (Ei s.ons p)
    rw [← zjV.out] at zf0
    have c0:_=some (Value.slice L.oA s.ons.length L.oC):=yS.out.cell 0
    have f0:=yS.out.frozen 0
    go_upto_region 17 with ((with_reducible refine zf0.out.mono ?_);rintro e w4 ⟨A4,c4,rfl,t4,x4⟩;have T4:=aA t4;have X4:=aA x4;have yU:=aA (yS.out.ext x4);have f4:=yU.out.frozen 0;have e4:_=some (Value.slice L.oA s.ons.length L.oC):=yU.out.cell 0;clear t4 x4 c0 f0)
    have zhx:=X3.out.trans X4.out
    have C5:=(aF.refl (fun b=>b=g) w4).setCell (p:=⟨g,0,none⟩) (.inl rfl) (.slice A4 (s.ons.eraseIdx p).length c4)
    have X5:=aA (zhx.setCell (p:=⟨g,0,none⟩) (by show w.heap.size≤g;have:=lT.out;omega) (.slice A4 (s.ons.eraseIdx p).length c4))
    have Mb:=aA (show aL _ g 66 #[.slice A4 (s.ons.eraseIdx p).length c4,.slice L.sA s.sides.length L.sC,.slice L.cA s.cnt.length L.cC,.slice L.lA s.live.length L.lC] from yU.out.set_ 0 (.slice A4 (s.ons.eraseIdx p).length c4))
    have ziJ:=aA ((tM.out.ext X4.out).far (p:=⟨g,0,none⟩) (by show g+1≠g;omega) (.slice A4 (s.ons.eraseIdx p).length c4))
    have T5:=aA (T4.out.keep (C5.mono fun b hb _ hp=>by
     rcases hp with hp | hp
     ·have:=HX.out b hp;have:=lT.out;omega
     ·have:=tP.out;have:=Me.out;omega) fun _ h=>h)
    have O5:=aA ((O3.out.ext X4.out).chg C5 fun b hb hh=>by have:=tP.out;omega)
    have e_:=aA (show w4.heap.size=(w4.setCell ⟨g,0,none⟩ (.slice A4 (s.ons.eraseIdx p).length c4)).heap.size∧w3.heap.size≤w4.heap.size from ⟨by simp,X4.out.size⟩)
    clear zhx C5 T4 X4 yU f4 e4 zf0 k3 ff
    generalize hw5:w4.setCell ⟨g,0,none⟩ (.slice A4 (s.ons.eraseIdx p).length c4)=w5 at *
    clear hw5
    have Ec:=O5.out.cap.1
    obtain ⟨p1,zaX⟩ : ∃ p1,p+1=p1:=⟨_,rfl⟩
    obtain ⟨A2,hA2⟩ : ∃ A2,(if c3=p1 then some (⟨g3,0,none⟩ : Addr) else some ⟨g3,p1,none⟩)=A2:=⟨_,rfl⟩
    have zck:IntKind.i64.wrap ((p:Int)+1)=(p1:Int):=by rw [IntWalk.i64_in _ (by have:=Mc.out;have:=HN.out.1;omega)];omega
    have zf2:(p1:Int)≤(s.cnt.length:Nat):=by omega
    have zg6:p≤c3:=by omega
    obtain ⟨i1,zbr,hy0,hy1,zb4⟩:=info_parts rB
    have zbU:s.cnt.length≤65536:=by have:=HC.out;have:=HN.out.1;omega
    have Θ:=aA zaX
    refine bW [(0,true),(1,true),(2,true),(3,true),(4,true),(5,true),(6,true),(7,false),(8,true)] (fun _=>True) (by kernel_rfl) (by kernel_rfl) (fun _ _ _ _ _ h=>h) ?_ ?_
    ·exact fun _ _=>trivial
    intro wq hwq
    have XQ:=aA hwq
    have OT:=aA (((O5.out.ext hwq).take p (by omega)))
    have Yv:=Xx (O5.out.ext hwq) p1 (by omega)
    rw [hA2] at Yv
    have SL:=aA Yv.1
    have dG:=aA Yv.2
    clear Yv zaX hwq
    iterate 7
     unfold dO
     refine ⟨_,rfl,?_⟩
     apply Exists.intro
     refine ⟨.inl ⟨by rfl,fun w9 h9=>?_⟩,fun K hK=>?_⟩
     ·go_simp;first | done | rfl
     go_simp;refine hK _ ?_;clear hK K
    unfold dO
    refine ⟨_,rfl,?_⟩
    refine aI rfl (.tmp 74) (.tmp 78) _ rfl _ 3 i1 _ 1 8 Tryz.underlying23 zbr hy0 hy1 zb4 rfl (by omega) (.slice (some ⟨g3,0,none⟩) p c3) p _ rfl OT.out A2 (s.cnt.length - p1) (c3 - p1) _ rfl SL.out dG.out (by unfold maxLen;omega) (by omega) ?_
    intro A9 c9 w9 own9 G9 C9
    go_wp2_with fail
    simp only [kB]
    refine ⟨trivial,?_⟩
    unfold dO
    refine ⟨_,rfl,?_⟩
    apply Exists.intro
    refine ⟨.inl ⟨by rfl,fun w9 h9=>?_⟩,fun K hK=>?_⟩
    ·go_simp;first | done | rfl
    go_simp;refine hK _ ?_;clear hK K
    unfold dO
    have zai:=C9.out.size
    have hq:=XQ.out.size
    have uG:=aA (C9.out.blk (Mb.out.ext XQ.out) (by have:=tP.out;omega));have pP:=aA (C9.out.blk (ziJ.out.ext XQ.out) (by have:=tP.out;omega))
    have XK:=aA (C9.out.ext (X5.out.trans XQ.out) fun b hb=>by have:=tP.out;have:=lT.out;omega)
    have TK:=aA ((T5.out.ext XQ.out (Q:=And' P w3.heap.size w4.heap.size) fun _ h=>h).grownI OT.out.own G9.out (fun _ h=>h))
    have OK:=aA (show aJ w9 (fun b=>w2.heap.size≤b∨b=wq.heap.size) 3 1 (p+(s.cnt.length - p1)) (.slice A9 (p+(s.cnt.length - p1)) c9) (((s.cnt.eraseIdx p).map Int.ofNat).map (Value.int .i64)) from by
     have h9:=own9.out
     rw [List.eraseIdx_eq_take_drop_succ,List.map_append,List.map_append,List.map_take,List.map_take,List.map_drop,List.map_drop,Θ.out]
     simpa using h9)
    have H9:=aA (show w4.heap.size≤w9.heap.size∧g+2≤wq.heap.size from by have:=e_.out;have:=tP.out;have:=Me.out;omega)
    clear zai hq own9 G9 C9 XQ OT SL dG T5 O5 X5 Mb ziJ zbr hy0 hy1 zb4 hA2 zck
    go_upto_region 18 with fail
    have b0:_=some (Value.slice A4 (s.ons.eraseIdx p).length c4):=uG.out.cell 0
    have b1:_=some (Value.slice L.sA s.sides.length L.sC):=uG.out.cell 1
    have b2:_=some (Value.slice L.cA s.cnt.length L.cC):=uG.out.cell 2
    have b3:_=some (Value.slice L.lA s.live.length L.lC):=uG.out.cell 3
    have z0:_=some (Value.slice none 0 0):=pP.out.cell 0
    have z1:_=some (Value.slice none 0 0):=pP.out.cell 1
    have z2:_=some (Value.slice none 0 0):=pP.out.cell 2
    have z3:_=some (Value.slice none 0 0):=pP.out.cell 3
    have h2:=uG.out.frozen 2
    have f0:=pP.out.frozen 0;have f1:=pP.out.frozen 1;have f2:=pP.out.frozen 2;have f3:=pP.out.frozen 3
    go_wp2_with fail
    have R:=iT (pP.out.far (p:=⟨g,2,none⟩) (by show g+1≠g;omega) (Value.slice A9 (p+(s.cnt.length - p1)) c9)) (Value.slice A4 (s.ons.eraseIdx p).length c4) (Value.slice L.sA s.sides.length L.sC) (Value.slice A9 (p+(s.cnt.length - p1)) c9) (Value.slice L.lA s.live.length L.lC)
    have r0:=R.cell 0;have r1:=R.cell 1;have r2:=R.cell 2;have r3:=R.cell 3
    refine bodyPost_ret (v:=.tuple #[.agg #[Value.slice A4 (s.ons.eraseIdx p).length c4,Value.slice L.sA s.sides.length L.sC,Value.slice A9 (p+(s.cnt.length - p1)) c9,Value.slice L.lA s.live.length L.lC],.int .i64 0]) (by simp [results,Tryz.results42,go_sem,r0,r1,r2,r3]) rfl ?_
    rw [xI.out]
    have C5:=((((((aF.refl (fun b=>b=g∨b=g+1) w9).setCell (p:=⟨g,2,none⟩) (.inl (.inl rfl)) (Value.slice A9 (p+(s.cnt.length - p1)) c9)).setCell (p:=⟨g+1,0,none⟩) (.inl (.inr rfl)) (Value.slice A4 (s.ons.eraseIdx p).length c4)).setCell (p:=⟨g+1,1,none⟩) (.inl (.inr rfl)) (Value.slice L.sA s.sides.length L.sC)).setCell (p:=⟨g+1,2,none⟩) (.inl (.inr rfl)) (Value.slice A9 (p+(s.cnt.length - p1)) c9)).setCell (p:=⟨g+1,3,none⟩) (.inl (.inr rfl)) (Value.slice L.lA s.live.length L.lC))
    have cZ:(s.cnt.eraseIdx p).length=p+(s.cnt.length - p1):=by
     have:=HC.out;have:=Mc.out;have:=Θ.out
     rw [List.length_eraseIdx,if_pos (by omega)];omega
    refine ⟨⟨A4,c4,L.sA,L.sC,A9,c9,L.lA,L.lC⟩,?_,?_⟩
    ·unfold Fi;rw [cZ]
    ·refine rW (t:={s with ons:=s.ons.eraseIdx p,cnt:=s.cnt.eraseIdx p}) HS.out lT.out XK.out C5 (Q:=And' P w3.heap.size w4.heap.size) (B:=fun b=>w2.heap.size≤b∨b=wq.heap.size) TK.out ?_ ?_ ?_
     ·intro b hb
      have:=lT.out;have:=tP.out;have:=Me.out;have:=e_.out;have:=H9.out
      rcases hb with hb | hb
      ·have:=HX.out b hb;exact ⟨.inl hb,by omega,by omega,by omega⟩
      ·exact ⟨.inr (by omega),by omega,by omega,by omega⟩
     ·show aJ _ _ 3 1 (s.cnt.eraseIdx p).length (.slice A9 (s.cnt.eraseIdx p).length c9) _
      rw [cZ];exact OK.out
     ·intro b hb
      have:=lT.out;have:=tP.out;have:=H9.out
      rcases hb with hb | hb <;> omega
def jY (X P:Nat→Prop) (A:Option Addr) (n c:Nat) (L:List (List V)) (w:World):Prop:=n=L.length∧∃ xs,aJ w X 28 1 n (.slice A n c) xs∧gJ (RB P) 1 w xs L
structure Fx (wL:World) (P:Nat→Prop) (Af:Option Addr) (nf cf:Nat) (F:List (List V)) (At:Option Addr) (nt ct:Nat) (T:List (List V)) (Am:Option Addr) (nm cm:Nat) (M:List (List V)) (w:World):Prop where
 ge:wL.heap.size≤w.heap.size
 ex:∃ X Y Z:Nat→Prop,jY X P Af nf cf F w∧jY Y P At nt ct T w∧jY Z P Am nm cm M w∧(∀ b,X b∨Y b∨Z b→wL.heap.size≤b∧b<w.heap.size)∧(∀ b,X b→¬ Y b)∧(∀ b,X b→¬ Z b)∧∀ b,Y b→¬ Z b
section
variable {wL w w':World} {X P:Nat→Prop} {A A' Af At Am:Option Addr} {n c c' nf cf nt ct nm cm:Nat} {L F T M:List (List V)}
theorem jY.nil (w:World) (X P:Nat→Prop):jY X P none 0 0 [] w:=⟨rfl,[],aJ.nil _ _ _ _,.nil⟩
theorem jY.chg {C:Nat→Prop} (h:jY X P A n c L w) (hw:aF C w w') (h1:∀ b,X b→¬ C b) (h2:∀ b,P b→¬ C b):jY X P A n c L w':=by
 obtain ⟨k1,xs,k2,k3⟩:=h
 exact ⟨k1,xs,k2.chg hw h1,k3.mono fun cs r hr=>hr.keep (hw.mono fun b hb _ hp=>h2 b hp hb) fun _ h=>h⟩
theorem jY.told {Q:Nat→Prop} (h:jY X P A n c L w) (h1:∀ b,X b→Q b) (h2:∀ b,P b→Q b):cY w Q A n c L:=by
 obtain ⟨k1,xs,k2,k3⟩:=h
 exact ⟨k1,xs,k2.mono h1,k3.mono fun cs r hr=>hr.mono h2⟩
theorem jY.push {xs:List Value} {u:Value} {r:List V} (he:gJ (RB P) 1 w xs L) (hn:n=L.length) (hr:RB P w [u] r) (hP:∀ b,P b→¬ X b)
 (o:aJ w' (fun b=>X b∨b=w.heap.size) 28 1 (n+1) (.slice A' (n+1) c') (xs ++ [u])) (C:aF X w w'):jY (fun b=>(X b∨b=w.heap.size)∧b<w'.heap.size) P A' (n+1) c' (L ++ [r]) w':=by
 have hk:bU P w w':=C.mono fun b hb _ hp=>hP b hp hb
 refine ⟨by rw [List.length_append,hn];rfl,xs ++ [u],⟨o.own,fun g hg=>⟨o.inB g hg,o.lt g hg⟩⟩,?_⟩
 exact (he.append (pN hr)).mono fun cs r hr=>hr.keep hk fun _ h=>h
theorem Fx.nil (wL:World) (P:Nat→Prop):Fx wL P none 0 0 [] none 0 0 [] none 0 0 [] wL:=
 ⟨Nat.le_refl _,fun _=>False,fun _=>False,fun _=>False,jY.nil _ _ _,jY.nil _ _ _,jY.nil _ _ _,fun b hb=>by simp at hb,fun _ h=>h.elim,fun _ h=>h.elim,fun _ h=>h.elim⟩
theorem Fx.chg {C:Nat→Prop} (h:Fx wL P Af nf cf F At nt ct T Am nm cm M w) (hw:aF C w w') (h1:∀ b,wL.heap.size≤b→b<w.heap.size→¬ C b) (h2:∀ b,P b→¬ C b):Fx wL P Af nf cf F At nt ct T Am nm cm M w':=by
 obtain ⟨X,Y,Z,a,b,c,bC,x1,x2,x3⟩:=h.ex
 exact ⟨Nat.le_trans h.ge hw.size,X,Y,Z,a.chg hw (fun g hg=>h1 g (bC g (.inl hg)).1 (bC g (.inl hg)).2) h2,b.chg hw (fun g hg=>h1 g (bC g (.inr (.inl hg))).1 (bC g (.inr (.inl hg))).2) h2,c.chg hw (fun g hg=>h1 g (bC g (.inr (.inr hg))).1 (bC g (.inr (.inr hg))).2) h2,fun g hg=>⟨(bC g hg).1,Nat.lt_of_lt_of_le (bC g hg).2 hw.size⟩,x1,x2,x3⟩
theorem Fx.ext (h:Fx wL P Af nf cf F At nt ct T Am nm cm M w) (hw:aD w w'):Fx wL P Af nf cf F At nt ct T Am nm cm M w':=h.chg (C:=fun _=>False) (aF.of hw) (fun _ _ _ h=>h) fun _ _ h=>h
theorem Fx.openF (h:Fx wL P Af nf cf F At nt ct T Am nm cm M w) (hP:∀ b,P b→b<wL.heap.size):∃ X xs,aJ w X 28 1 nf (.slice Af nf cf) xs∧nf=F.length∧(∀ b,X b→wL.heap.size≤b)∧
 ∀ (w':World) (A':Option Addr) (c':Nat) (u:Value) (r:List V),RB P w [u] r→aJ w' (fun b=>X b∨b=w.heap.size) 28 1 (nf+1) (.slice A' (nf+1) c') (xs ++ [u])→aF X w w'→Fx wL P A' (nf+1) c' (F ++ [r]) At nt ct T Am nm cm M w':=by
 have sR:=h.ge
 obtain ⟨X,Y,Z,a,b,c,bC,x1,x2,x3⟩:=h.ex
 have hh:=a
 obtain ⟨hl,xs,ho,he⟩:=hh
 refine ⟨X,xs,ho,hl,fun g hg=>(bC g (.inl hg)).1,fun w' A' c' u r hr o C=>⟨Nat.le_trans sR C.size,(fun b=>(X b∨b=w.heap.size)∧b<w'.heap.size),Y,Z,jY.push he hl hr (fun g hp hx=>by have:=hP g hp;have:=(bC g (.inl hx)).1;omega) o C,b.chg C (fun g hg hx=>x1 g hx hg) fun g hp hx=>by have:=hP g hp;have:=(bC g (.inl hx)).1;omega,c.chg C (fun g hg hx=>x2 g hx hg) fun g hp hx=>by have:=hP g hp;have:=(bC g (.inl hx)).1;omega,?_,?_,?_,?_⟩⟩
 ·exact fun g hg=>by
   have hs:=C.size
   have zeI:=h.ge
   rcases hg with hg | hg | hg
   ·rcases hg.1 with hx | hx
    ·exact ⟨(bC _ (.inl hx)).1,hg.2⟩
    ·exact ⟨by omega,hg.2⟩
   ·exact ⟨(bC _ (.inr (.inl hg))).1,by have:=(bC _ (.inr (.inl hg))).2;omega⟩
   ·exact ⟨(bC _ (.inr (.inr hg))).1,by have:=(bC _ (.inr (.inr hg))).2;omega⟩
 ·exact fun g hp hq=>by
   rcases hp.1 with hp | hp
   ·exact x1 g hp hq
   ·have:=(bC _ (.inr (.inl hq))).2;omega
 ·exact fun g hp hq=>by
   rcases hp.1 with hp | hp
   ·exact x2 g hp hq
   ·have:=(bC _ (.inr (.inr hq))).2;omega
 ·exact x3
theorem Fx.openT (h:Fx wL P Af nf cf F At nt ct T Am nm cm M w) (hP:∀ b,P b→b<wL.heap.size):∃ X xs,aJ w X 28 1 nt (.slice At nt ct) xs∧nt=T.length∧(∀ b,X b→wL.heap.size≤b)∧
 ∀ (w':World) (A':Option Addr) (c':Nat) (u:Value) (r:List V),RB P w [u] r→aJ w' (fun b=>X b∨b=w.heap.size) 28 1 (nt+1) (.slice A' (nt+1) c') (xs ++ [u])→aF X w w'→Fx wL P Af nf cf F A' (nt+1) c' (T ++ [r]) Am nm cm M w':=by
 have sR:=h.ge
 obtain ⟨X,Y,Z,a,b,c,bC,x1,x2,x3⟩:=h.ex
 have hh:=b
 obtain ⟨hl,xs,ho,he⟩:=hh
 refine ⟨Y,xs,ho,hl,fun g hg=>(bC g (.inr (.inl hg))).1,fun w' A' c' u r hr o C=>⟨Nat.le_trans sR C.size,X,(fun b=>(Y b∨b=w.heap.size)∧b<w'.heap.size),Z,a.chg C (fun g hg hx=>x1 g hg hx) fun g hp hx=>by have:=hP g hp;have:=(bC g (.inr (.inl hx))).1;omega,jY.push he hl hr (fun g hp hx=>by have:=hP g hp;have:=(bC g (.inr (.inl hx))).1;omega) o C,c.chg C (fun g hg hx=>x3 g hx hg) fun g hp hx=>by have:=hP g hp;have:=(bC g (.inr (.inl hx))).1;omega,?_,?_,?_,?_⟩⟩
 ·exact fun g hg=>by
   have hs:=C.size
   have zeI:=h.ge
   rcases hg with hg | hg | hg
   ·exact ⟨(bC _ (.inl hg)).1,by have:=(bC _ (.inl hg)).2;omega⟩
   ·rcases hg.1 with hx | hx
    ·exact ⟨(bC _ (.inr (.inl hx))).1,hg.2⟩
    ·exact ⟨by omega,hg.2⟩
   ·exact ⟨(bC _ (.inr (.inr hg))).1,by have:=(bC _ (.inr (.inr hg))).2;omega⟩
 ·exact fun g hp hq=>by
   rcases hq.1 with hq | hq
   ·exact x1 g hp hq
   ·have:=(bC _ (.inl hp)).2;omega
 ·exact x2
 ·exact fun g hp hq=>by
   rcases hp.1 with hp | hp
   ·exact x3 g hp hq
   ·have:=(bC _ (.inr (.inr hq))).2;omega
theorem Fx.openM (h:Fx wL P Af nf cf F At nt ct T Am nm cm M w) (hP:∀ b,P b→b<wL.heap.size):∃ X xs,aJ w X 28 1 nm (.slice Am nm cm) xs∧nm=M.length∧(∀ b,X b→wL.heap.size≤b)∧
 ∀ (w':World) (A':Option Addr) (c':Nat) (u:Value) (r:List V),RB P w [u] r→aJ w' (fun b=>X b∨b=w.heap.size) 28 1 (nm+1) (.slice A' (nm+1) c') (xs ++ [u])→aF X w w'→Fx wL P Af nf cf F At nt ct T A' (nm+1) c' (M ++ [r]) w':=by
 have sR:=h.ge
 obtain ⟨X,Y,Z,a,b,c,bC,x1,x2,x3⟩:=h.ex
 have hh:=c
 obtain ⟨hl,xs,ho,he⟩:=hh
 refine ⟨Z,xs,ho,hl,fun g hg=>(bC g (.inr (.inr hg))).1,fun w' A' c' u r hr o C=>⟨Nat.le_trans sR C.size,X,Y,(fun b=>(Z b∨b=w.heap.size)∧b<w'.heap.size),a.chg C (fun g hg hx=>x2 g hg hx) fun g hp hx=>by have:=hP g hp;have:=(bC g (.inr (.inr hx))).1;omega,b.chg C (fun g hg hx=>x3 g hg hx) fun g hp hx=>by have:=hP g hp;have:=(bC g (.inr (.inr hx))).1;omega,jY.push he hl hr (fun g hp hx=>by have:=hP g hp;have:=(bC g (.inr (.inr hx))).1;omega) o C,?_,?_,?_,?_⟩⟩
 ·exact fun g hg=>by
   have hs:=C.size
   have zeI:=h.ge
   rcases hg with hg | hg | hg
   ·exact ⟨(bC _ (.inl hg)).1,by have:=(bC _ (.inl hg)).2;omega⟩
   ·exact ⟨(bC _ (.inr (.inl hg))).1,by have:=(bC _ (.inr (.inl hg))).2;omega⟩
   ·rcases hg.1 with hx | hx
    ·exact ⟨(bC _ (.inr (.inr hx))).1,hg.2⟩
    ·exact ⟨by omega,hg.2⟩
 ·exact x1
 ·exact fun g hp hq=>by
   rcases hq.1 with hq | hq
   ·exact x2 g hp hq
   ·have:=(bC _ (.inl hp)).2;omega
 ·exact fun g hp hq=>by
   rcases hq.1 with hq | hq
   ·exact x3 g hp hq
   ·have:=(bC _ (.inr (.inl hp))).2;omega
end
structure TS (wL:World) (P:Nat→Prop) (d:Nat) (K:NK) (a:aR) (s1:cR) (U:lS) (La:Dq) (gb:Nat) (Aw:Option Addr) (cw:Nat):Prop where
 ok:fN K
 sz:Nz K a.now
 sz1:Nz K s1
 lt:∀ b,P b→b<wL.heap.size∧b≠d
 dlt:d<wL.heap.size
 keep:jR wL P U.kA U.kC K.keep
 side:jR wL P U.sA U.sC K.side
 up:jR wL P U.uA U.uC K.up
 ons:cY wL P U.a.oA s1.ons.length U.a.oC s1.ons
 sides:cY wL P U.a.sA s1.sides.length U.a.sC s1.sides
 cnt:jR wL P U.a.cA U.a.cC s1.cnt
 was:jC wL P a.now La
 sup:aJ wL P 3 1 a.now.ons.length (.slice Aw a.now.ons.length cw) ((Gu K a.now a.now.ons.length).map (Value.int .i64))
 bef:aL wL gb 66 (Fi a.now La)
 befP:P gb
 old:∀ o,a.old=some o→U.so=o∧jC wL P o U.o∧iS K o∧Nz K o
structure TI (wL:World) (P:Nat→Prop) (d:Nat) (K:NK) (s1:cR) (mk:Bool) (U:lS) (Af:Option Addr) (nf cf:Nat) (F:List (List V)) (At:Option Addr) (nt ct:Nat) (T:List (List V)) (Am:Option Addr) (nm cm:Nat) (M:List (List V)) (w:World):Prop where
 tri:Fx wL P Af nf cf F At nt ct T Am nm cm M w
 blk:aL w d 70 (Gt K {s1 with live:=M} mk {U with a:={U.a with lA:=Am,lC:=cm}})
 chg:aF (fun b=>b=d) wL w
 len:nf=F.length∧nt=T.length∧nm=M.length
section
variable {wL w w':World} {P:Nat→Prop} {d:Nat} {K:NK} {a:aR} {s1:cR} {mk:Bool} {U:lS} {La:Dq} {gb:Nat} {Aw:Option Addr} {cw:Nat} {A' Af At Am:Option Addr} {c' nf cf nt ct nm cm:Nat} {F T M:List (List V)}
theorem TI.ext (h:TI wL P d K s1 mk U Af nf cf F At nt ct T Am nm cm M w) (hw:aD w w'):TI wL P d K s1 mk U Af nf cf F At nt ct T Am nm cm M w':=⟨h.tri.ext hw,h.blk.ext hw,h.chg.trans' (aF.of hw),h.len⟩
theorem TS.keeps (hs:TS wL P d K a s1 U La gb Aw cw) (h:TI wL P d K s1 mk U Af nf cf F At nt ct T Am nm cm M w):bU P wL w:=h.chg.mono fun b hb _ hp=>(hs.lt b hp).2 hb
theorem TS.doc (hs:TS wL P d K a s1 U La gb Aw cw) (h:TI wL P d K s1 mk U Af nf cf F At nt ct T Am nm cm M w) (hM:M.length≤131072∧∀ r∈M,r.length≤30):vV w (fun b=>P b∨b=d∨(wL.heap.size≤b∧b<w.heap.size)) d K {s1 with live:=M} mk {U with a:={U.a with lA:=Am,lC:=cm}}:=by
 have hk:=hs.keeps h
 have hq:∀ b,P b→P b∨b=d∨(wL.heap.size≤b∧b<w.heap.size):=fun b hb=>.inl hb
 have sR:=h.tri.ge
 refine ⟨hs.ok,⟨hs.sz1.ons,hs.sz1.sides,hM,hs.sz1.cnt,hs.sz1.cle⟩,h.blk,.inr (.inl rfl),fun b hb=>?_,hs.keep.keep hk hq,hs.side.keep hk hq,hs.up.keep hk hq,hs.ons.keep hk hq,hs.sides.keep hk hq,hs.cnt.keep hk hq,?_⟩
 ·have:=hs.dlt
  rcases hb with hb | hb | hb
  ·have:=(hs.lt b hb).1;omega
  ·omega
  ·omega
 ·obtain ⟨X,Y,Z,-,-,c,bC,-⟩:=h.tri.ex
  have ht:=c.told (Q:=fun b=>P b∨b=d∨(wL.heap.size≤b∧b<w.heap.size)) (fun b hb=>.inr (.inr (bC b (.inr (.inr hb))))) hq
  have:=h.len.2.2
  subst this
  exact ht
theorem TI.pushF (hs:TS wL P d K a s1 U La gb Aw cw) (h:TI wL P d K s1 mk U Af nf cf F At nt ct T Am nm cm M w):∃ X xs,aJ w X 28 1 nf (.slice Af nf cf) xs∧∀ (w':World) (A':Option Addr) (c':Nat) (u:Value) (r:List V),RB P w [u] r→aJ w' (fun b=>X b∨b=w.heap.size) 28 1 (nf+1) (.slice A' (nf+1) c') (xs ++ [u])→aF X w w'→TI wL P d K s1 mk U A' (nf+1) c' (F ++ [r]) At nt ct T Am nm cm M w':=by
 obtain ⟨X,xs,h1,h2,h3,h4⟩:=h.tri.openF fun b hb=>(hs.lt b hb).1
 refine ⟨X,xs,h1,fun w' A' c' u r hr o C=>⟨h4 w' A' c' u r hr o C,C.blk h.blk fun hx=>by have:=h3 d hx;have:=hs.dlt;omega,h.chg.trans C fun b hb hl=>by have:=h3 b hb;omega,by rw [List.length_append,h2];rfl,h.len.2⟩⟩
theorem TI.pushT (hs:TS wL P d K a s1 U La gb Aw cw) (h:TI wL P d K s1 mk U Af nf cf F At nt ct T Am nm cm M w):∃ X xs,aJ w X 28 1 nt (.slice At nt ct) xs∧∀ (w':World) (A':Option Addr) (c':Nat) (u:Value) (r:List V),RB P w [u] r→aJ w' (fun b=>X b∨b=w.heap.size) 28 1 (nt+1) (.slice A' (nt+1) c') (xs ++ [u])→aF X w w'→TI wL P d K s1 mk U Af nf cf F A' (nt+1) c' (T ++ [r]) Am nm cm M w':=by
 obtain ⟨X,xs,h1,h2,h3,h4⟩:=h.tri.openT fun b hb=>(hs.lt b hb).1
 refine ⟨X,xs,h1,fun w' A' c' u r hr o C=>⟨h4 w' A' c' u r hr o C,C.blk h.blk fun hx=>by have:=h3 d hx;have:=hs.dlt;omega,h.chg.trans C fun b hb hl=>by have:=h3 b hb;omega,h.len.1,by rw [List.length_append,h2];rfl,h.len.2.2⟩⟩
theorem TI.pushM (hs:TS wL P d K a s1 U La gb Aw cw) (h:TI wL P d K s1 mk U Af nf cf F At nt ct T Am nm cm M w):∃ X xs,aJ w X 28 1 nm (.slice Am nm cm) xs∧(∀ b,X b→wL.heap.size≤b)∧∀ (w':World) (A':Option Addr) (c':Nat) (u:Value) (r:List V),RB P w [u] r→aJ w' (fun b=>X b∨b=w.heap.size) 28 1 (nm+1) (.slice A' (nm+1) c') (xs ++ [u])→aF X w w'→
 TI wL P d K s1 mk U Af nf cf F At nt ct T A' (nm+1) c' (M ++ [r]) (w'.setCell ⟨d,9,none⟩ (.slice A' (nm+1) c')):=by
 obtain ⟨X,xs,h1,h2,h3,h4⟩:=h.tri.openM fun b hb=>(hs.lt b hb).1
 refine ⟨X,xs,h1,h3,fun w' A' c' u r hr o C=>?_⟩
 have hb':aL w' d 70 _:=C.blk h.blk fun hx=>by have:=h3 d hx;have:=hs.dlt;omega
 have hc':aF (fun b=>b=d) wL w':=h.chg.trans C fun b hb hl=>by have:=h3 b hb;omega
 have ht:=h4 w' A' c' u r hr o C
 refine ⟨ht.chg (C:=fun b=>b=d) ((aF.refl _ w').atD 9 _) (fun b hb _ hx=>by have:=hs.dlt;omega) fun b hb hx=>(hs.lt b hb).2 hx,?_,hc'.atD 9 _,h.len.1,h.len.2.1,by rw [List.length_append,h2];rfl⟩
 have vS:=hb'.set_ 9 (.slice A' (nm+1) c')
 have hl:(M ++ [r]).length=nm+1:=by rw [List.length_append,h2];rfl
 have he:Gt K {s1 with live:=M ++ [r]} mk {U with a:={U.a with lA:=A',lC:=c'}}=(Gt K {s1 with live:=M} mk {U with a:={U.a with lA:=Am,lC:=cm}}).setIfInBounds 9 (.slice A' (nm+1) c'):=by
  unfold Gt
  simp only [hl]
  rfl
 rw [he]
 exact vS
end
section
variable {w w6 wL w':World} {P Q PL:Nat→Prop} {d:Nat} {K:NK} {a:aR} {s1:cR} {mk:Bool} {U:lS} {L1:Dq} {gb m:Nat} {Aw:Option Addr} {cw:Nat} {A:Option Addr} {n c:Nat} {rows:List (List V)}
theorem cY.rbP (h:cY w P A n c rows) {i:Nat} {r:List V} (hr:rows[i]?=some r):∃ b off A9 c9,A=some ⟨b,off,none⟩∧w.cell? ⟨b,off+i,none⟩=some (.slice A9 r.length c9)∧RB P w [.slice A9 r.length c9] r∧P b:=by
 obtain ⟨b,off,A9,c9,h1,h2,h3⟩:=h.rb hr
 obtain ⟨k1,xs,k2,k3⟩:=h
 subst h1
 exact ⟨b,off,A9,c9,rfl,h2,h3,k2.inB b rfl⟩
theorem cY.ne {t:TypeId} {cs:Array Value} (h:cY w P A n c rows) (hb:aL w d t cs) (h1:28≠t) (h2:85≠t):cY w (fun b=>P b∧b<w.heap.size∧b≠d) A n c rows:=by
 obtain ⟨k1,xs,k2,k3⟩:=h
 refine ⟨k1,xs,⟨k2.own,fun g hg=>⟨k2.inB g hg,k2.lt g hg,fun e=>aN k2.own hb h1 (by rw [← e];exact hg.symm)⟩⟩,k3.mono fun cs r hx=>?_⟩
 obtain ⟨A,n,c,e,ho⟩:=hx
 exact ⟨A,n,c,e,ho.own,fun g hg=>⟨ho.inB g hg,ho.lt g hg,fun e=>aN ho.own hb h2 (by rw [← e];exact hg.symm)⟩⟩
theorem aJ.neI {v:Value} {xs:List Value} {t:TypeId} {cs:Array Value} (h:aJ w P 3 1 n v xs) (hb:aL w d t cs) (h1:3≠t):aJ w (fun b=>P b∧b<w.heap.size∧b≠d) 3 1 n v xs:=
 ⟨h.own,fun g hg=>⟨h.inB g hg,h.lt g hg,fun e=>aN h.own hb h1 (by rw [← e];exact hg.symm)⟩⟩
theorem jC.ne {s:cR} {L:Dq} {cs:Array Value} (h:jC w P s L) (hb:aL w d 70 cs):jC w (fun b=>P b∧b<w.heap.size∧b≠d) s L:=
 ⟨h.ons.ne hb (by decide) (by decide),h.sides.ne hb (by decide) (by decide),aJ.neI h.cnt hb (by decide),h.live.ne hb (by decide) (by decide)⟩
theorem zcW {cs:Array Value} (h:tA w P d K a U) (hX:aD w w6) (hL:jC w6 (fun b=>P b∨w.heap.size≤b) s1 L1) (hO:aJ w6 (fun b=>m≤b) 3 1 a.now.ons.length (.slice Aw a.now.ons.length cw) ((Gu K a.now a.now.ons.length).map (Value.int .i64))) (hm:w.heap.size≤m) (hD:aL w6 d 70 cs) (hB:aL w6 gb 66 (Fi a.now U.a)) (hg:w.heap.size≤gb) (hC:aF (fun b=>b=d) w6 wL) (hz:Nz K s1) :
 TS wL (fun b=>(P b∨w.heap.size≤b)∧b<wL.heap.size∧b≠d) d K a s1 {U with a:={L1 with lA:=none,lC:=0}} U.a gb Aw cw:=by
 have xZ:=h.base.lt d h.base.inP
 have hs:=hC.size
 have xC:=hX.size
 have hk:bU (fun b=>(P b∨w.heap.size≤b)∧b<w6.heap.size∧b≠d) w6 wL:=hC.mono fun b hb _ hp=>hp.2.2 hb
 have hq:∀ b,(P b∨w.heap.size≤b)∧b<w6.heap.size∧b≠d→(P b∨w.heap.size≤b)∧b<wL.heap.size∧b≠d:=fun b hb=>⟨hb.1,by omega,hb.2.2⟩
 have bE:∀ b,P b→P b∨w.heap.size≤b:=fun _ h=>.inl h
 have hn:=hL.ne hD
 have num:∀ {A:Option Addr} {c:Nat} {xs:List Nat},jR w P A c xs→jR wL (fun b=>(P b∨w.heap.size≤b)∧b<wL.heap.size∧b≠d) A c xs:=fun h1=>jR.keep (aJ.neI (aJ.mono (aJ.ext h1 hX) bE) hD (by decide)) hk hq
 have ds:∀ {s:cR} {L:Dq},jC w P s L→jC wL (fun b=>(P b∨w.heap.size≤b)∧b<wL.heap.size∧b≠d) s L:=fun h1=>((h1.keep (aF.of hX) bE).ne hD).keep hk hq
 have nK:gb≠d:=by omega
 refine ⟨h.base.ok,h.base.sz,hz,fun b hb=>hb.2,by omega,num h.base.keep,num h.base.side,num h.base.up,hn.ons.keep hk hq,hn.sides.keep hk hq,hn.cnt.keep hk hq,ds h.base.now,?_,hC.blk hB nK,⟨.inr hg,?_,nK⟩,fun o ho=>⟨(h.old o ho).1,ds (h.old o ho).2.1,(h.old o ho).2.2⟩⟩
 ·exact (aJ.chg (aJ.neI (aJ.mono hO fun b hb=>.inr (Nat.le_trans hm hb)) hD (by decide)) hk fun b hb hn=>hn hb).mono hq
 ·have:=hB.lt;omega
theorem zeq (hD:aL wL d 70 (Gt K {s1 with live:=[]} mk {U with a:={L1 with lA:=none,lC:=0}})):TI wL PL d K s1 mk {U with a:={L1 with lA:=none,lC:=0}} none 0 0 [] none 0 0 [] none 0 0 [] wL:=
 ⟨Fx.nil _ _,hD,aF.refl _ _,rfl,rfl,rfl⟩
theorem yg {La:Dq} {Af At Am:Option Addr} {nf cf nt ct nm cm:Nat} {F T M:List (List V)} (hs:TS wL PL d K a s1 U La gb Aw cw) (h:TI wL PL d K s1 a.old.isSome U Af nf cf F At nt ct T Am nm cm M w') (hQ:∀ b,PL b→P b∨w.heap.size≤b) (hd:P d) (hP:∀ b,P b→b<w.heap.size) (hw:w.heap.size≤wL.heap.size) (hM:M.length≤131072∧∀ r∈M,r.length≤30) (hn:iS K {s1 with live:=M}) :
 cY w' (And' P w.heap.size w'.heap.size) Af nf cf F∧cY w' (And' P w.heap.size w'.heap.size) At nt ct T∧oT w' (And' P w.heap.size w'.heap.size) d K {a with now:={s1 with live:=M}}:=by
 have sR:=h.tri.ge
 have hq:∀ b,PL b→And' P w.heap.size w'.heap.size b:=fun b hb=>(hQ b hb).imp id fun hx=>⟨hx,by have:=(hs.lt b hb).1;omega⟩
 have xZ:=hs.dlt
 obtain ⟨X,Y,Z,f,t,-,bC,-⟩:=h.tri.ex
 refine ⟨f.told (fun b hb=>.inr ⟨by have:=bC b (.inl hb);omega,(bC b (.inl hb)).2⟩) hq,t.told (fun b hb=>.inr ⟨by have:=bC b (.inr (.inl hb));omega,(bC b (.inr (.inl hb))).2⟩) hq,⟨{U with a:={U.a with lA:=Am,lC:=cm}},(hs.doc h hM).keep_ (aF.refl _ _) (fun b hb=>?_) (fun b hb=>?_),hn,fun o ho=>?_⟩⟩
 ·rcases hb with hb | rfl | hb
  ·exact hq b hb
  ·exact .inl hd
  ·exact .inr ⟨by omega,hb.2⟩
 ·rcases hb with hb | hb
  ·have:=hP b hb;omega
  ·exact hb.2
 ·exact ⟨(hs.old o ho).1,(hs.old o ho).2.1.keep (hs.keeps h) hq,(hs.old o ho).2.2⟩
end
def pU (K:NK) (s s1:cR) (i:Nat):List (List V):=(s.live.take i).filter (bG K s1)
def lI (K:NK) (s s1:cR) (on:Bool) (i:Nat):List (List V):=((eM s s1 on).take i).filter fun x=>bG K s1 x != inB s.live x
def lD (K:NK) (s s1:cR) (on:Bool) (i:Nat):List (List V):=((eM s s1 on).take i).filter fun x=>eL K s1 x != eL K s x
def i5 (K:NK) (s s1:cR) (on:Bool) (i:Nat):List (List V):=s.live.filter (bG K s1) ++ (lI K s s1 on i).filter (bG K s1)
section
variable {K:NK} {s s1:cR} {on:Bool} {i:Nat} {r:List V}
theorem Ny (h:s.live[i]?=some r):pU K s s1 (i+1)=pU K s s1 i ++ if bG K s1 r=true then [r] else []:=by
 unfold pU
 rw [List.take_add_one,h]
 simp only [Option.toList_some,List.filter_append,List.filter_cons,List.filter_nil]
theorem Be (h:(eM s s1 on)[i]?=some r):lI K s s1 on (i+1)=lI K s s1 on i ++ if (bG K s1 r != inB s.live r)=true then [r] else []:=by
 unfold lI
 rw [List.take_add_one,h]
 simp only [Option.toList_some,List.filter_append,List.filter_cons,List.filter_nil]
theorem Lz (h:(eM s s1 on)[i]?=some r):lD K s s1 on (i+1)=lD K s s1 on i ++ if (eL K s1 r != eL K s r)=true then [r] else []:=by
 unfold lD
 rw [List.take_add_one,h]
 simp only [Option.toList_some,List.filter_append,List.filter_cons,List.filter_nil]
theorem Nw (h:(eM s s1 on)[i]?=some r):i5 K s s1 on (i+1)=i5 K s s1 on i ++ if (bG K s1 r != inB s.live r)=true∧bG K s1 r=true then [r] else []:=by
 unfold i5
 rw [Be h,List.filter_append,← List.append_assoc]
 congr 1
 cases h1:(bG K s1 r != inB s.live r) <;> cases h2:bG K s1 r <;> simp [h2]
theorem Fo (K:NK) (s s1:cR) (on:Bool):lI K s s1 on (eM s s1 on).length=pY K s s1 on:=by unfold lI pY;rw [List.take_length]
theorem Pa (K:NK) (s s1:cR) (on:Bool):lD K s s1 on (eM s s1 on).length=pG K s s1 on:=by unfold lD pG;rw [List.take_length]
theorem Ff (K:NK) (s s1:cR) (on:Bool):i5 K s s1 on (eM s s1 on).length=Je K s s1 on:=by unfold i5 Je;rw [Fo]
theorem Nd (K:NK) (s s1:cR) (on:Bool):pU K s s1 s.live.length=i5 K s s1 on 0:=by unfold pU i5 lI;rw [List.take_length];simp
theorem Jr (h:Nz K s) (i:Nat):(pU K s s1 i).length≤131072∧∀ r∈pU K s s1 i,r.length≤30:=by
 refine ⟨?_,fun r hr=>h.live.2 r (List.mem_of_mem_take (List.mem_filter.1 hr).1)⟩
 have:=List.length_filter_le (bG K s1) (s.live.take i)
 rw [List.length_take] at this
 have:=h.live.1
 unfold pU
 omega
theorem uD (h:Nz K s) (h1:Nz K s1):(eM s s1 on).length≤65536∧∀ r∈eM s s1 on,r.length≤30:=by
 unfold eM
 split
 ·exact h1.ons
 ·exact h.ons
theorem xV (h:Nz K s) (h1:Nz K s1) (hl:s.live.length≤65536) (i:Nat):(i5 K s s1 on i).length≤131072∧∀ r∈i5 K s s1 on i,r.length≤30:=by
 have hb:=uD (on:=on) h h1
 unfold i5
 refine ⟨?_,fun r hr=>?_⟩
 ·rw [List.length_append]
  have e1:=List.length_filter_le (bG K s1) s.live
  have e2:=List.length_filter_le (bG K s1) (lI K s s1 on i)
  have e3:=List.length_filter_le (fun x=>bG K s1 x != inB s.live x) ((eM s s1 on).take i)
  rw [List.length_take] at e3
  unfold lI at e2 ⊢
  omega
 ·rcases List.mem_append.1 hr with hr | hr
  ·exact h.live.2 r (List.mem_filter.1 hr).1
  ·exact hb.2 r (List.mem_of_mem_take (List.mem_filter.1 (List.mem_filter.1 hr).1).1)
theorem Tp (K:NK) (s:cR) (r:List V):Co (Gu K s s.ons.length) s.ons r=(eL K s r:Nat):=by
 unfold Co
 cases hi:jW r s.ons with
 | none=>simp only;rw [Ek hi];rfl
 |some p=>
  simp only
  have hg:=iC hi
  unfold Gu
  rw [List.take_length,List.getElem?_map,hg]
  rfl
theorem Na (K:NK) (s:cR) (on:Bool) (f:Int) (r:List V):(gM K s on f r).1.live=s.live:=by
 unfold gM
 split
 ·unfold eY
  repeat' split
  all_goals rfl
 ·split <;> rfl
theorem Ud {K:NK} (h:K.kind≠2) (s:cR) (on:Bool) (f:Int) (r:List V):(gM K s on f r).1.cnt=s.cnt:=by
 unfold gM
 rw [if_neg h]
 split <;> rfl
theorem zx {M:List (List V)} {f:Int} (hK:fN K) (hs:Nz K s) (fI:gM K s on f r=(s1,0)) (h:iS K {s1 with live:=M}):Nz K s1:=by
 have h1:s1.live=s.live:=by have:=Na K s on f r;rw [fI] at this;exact this
 refine ⟨⟨h.onsLen hK,h.onsSmall hK⟩,⟨h.sidesLen hK,h.sidesSmall hK⟩,by rw [h1];exact hs.live,fun h2=>(h.cnt h2).1,?_⟩
 by_cases h2:K.kind=2
 ·have h3:=h.cnt h2
  have h4:=h.onsLen hK
  exact ⟨by have:=h3.1;dsimp only at this h4;omega,fun c hc=>(h3.2 c hc).2⟩
 ·have h5:s1.cnt=s.cnt:=by have:=Ud h2 s on f r;rw [fI] at this;exact this
  rw [h5];exact hs.cle
end
end Go.Proofs.YtahdiiaadjdmcaaGreat
