import Derived.Test.YtahdiiaadjdmcaaGreatGbG
import Derived.Test.YtahdiiaadjdmcaaGreatGbD
namespace Go.Proofs.YtahdiiaadjdmcaaGreat
open Go.RowKit
theorem zbY:(Tryz.prog.info? 125).map (fun i=>(i.zero,i.size,i.bytes))=some (some (.pointer none),1,8):=by kernel_rfl
theorem Tl (s L:Nat) (h:s*L≤4611686018427387000):∃ q q1:Nat,Hid (q=s*L)∧Hid (q1=q+1)∧IntKind.i64.wrap ((s:Int)*((L:Nat):Int))=(q:Int)∧IntKind.i64.wrap ((q:Int)+1)=(q1:Int):=
 ⟨s*L,s*L+1,rfl,rfl,by rw [Int.natCast_mul];exact IntWalk.i64_in _ (by rw [← Int.natCast_mul];omega),by rw [Int.natCast_add];exact IntWalk.i64_in _ (by omega)⟩
set_option maxRecDepth 100000 in
set_option maxHeartbeats 2000000 in
theorem vj {w:World} {x width most:Nat} {gs:List (List Nat)} {GA:Option Addr} {cG:Nat} {Bg:Nat→Prop} {c4 c5 c6 c7 c8 c9 c10:Value}
 (hx:aL w x 131 (r6 width most (gs.length+1) GA gs.length cG c4 c5 c6 c7 c8 c9 c10)) (hg:lJ w Bg GA gs.length gs) (hBx:¬ Bg x) (hBl:∀ b,Bg b→b<w.heap.size) (hm:1≤most∧most≤65536) (zad:gs.length≤4) :
 Calls Tryz.prog 80 #[.pointer (some ⟨x,0,none⟩)] w fun e w'=>e=.returned (.tuple #[])∧∃ lab v,cW w' lab v∧xX v x width most gs∧(∀ b,lab.dom b→b=x∨Bg b∨w.heap.size≤b)∧aF (fun b=>b=x) w w':=by
 obtain ⟨i0,eQ,hz0,hz1,eO⟩:=info_parts zbY
 have On:=hx.lt
 have HR:=aA (fun (w1:World)=>N0 most w1 hm.1 (by omega))
 have HW:=aA (fun (w1:World)=>jk most w1 hm.1 (by omega))
 have hL:most*(gs.length+1)≤327680:=Nat.le_trans (Nat.mul_le_mul hm.2 (show gs.length+1≤5 by omega)) (by omega)
 have xm:1≤most*(gs.length+1):=Nat.mul_pos (by omega) (by omega)
 have HI:=aA (fun (w1:World)=>Om (most*(gs.length+1)) w1 xm (by omega))
 have HO:=aA (fun (w1:World)=>Tm (most*(gs.length+1)) (most*(gs.length+1)+1) w1 xm (by omega) (by omega) (by omega))
 have O_:=aA (show yW w w x Bg (aP.with_ (fun _=>none) 1 Bg) (pH x width most gs GA cG 0 0 0 none 0 [] 0 0 0) (fun i=>i=1∨i=8∨10≤i) from by
  refine ⟨fun b i hb=>(aP.with_dom ⟨i,hb⟩).elim (hBl b) fun ⟨k,hk⟩=>(by cases hk),fun i hi=>?_,fun b hb=>(aP.with_dom hb).elim .inl fun ⟨k,hk⟩=>(by cases hk),fun h=>(aP.with_dom h).elim hBx fun ⟨k,hk⟩=>(by cases hk),aF.refl _ _⟩
  match i,hi with
  | 0,hi=>omega
  | 1,_=>exact hg.mono fun b hb=>aP.with_own hb
  | 2,hi=>omega
  | 3,hi=>omega
  | 4,hi=>omega
  | 5,hi=>omega
  | 6,hi=>omega
  | 7,hi=>omega
  | 8,_=>exact ⟨fun i r h=>(by cases h),rfl,fun i u z h=>(by cases h)⟩
  | 9,hi=>omega
  | k+10,_=>exact fun xk h=>(by cases h))
 have HX:=aA hx
 have a1:w.cell? ⟨x,1,none⟩=some (.int .i64 most):=hx.cell 1
 have a4:w.cell? ⟨x,4,none⟩=some c4:=hx.cell 4
 have nM:=hm.1
 have HBx:=aA hBx
 generalize nD:gs.length=gl at *
 have Vf:=aA nD
 clear hx hg hBx hBl nD
 have Dt:=@run_makeMap Tryz.prog
 go_enter Tryz.func80,Tryz.ntmps80
 go_upto_region 1 with ((with_reducible refine (HR.out _).mono ?_);rintro e w1 ⟨xs,rfl,h1,h2,h3⟩;have R1:=aA h1;have R2:=aA h2;have R3:=aA h3;have b4:w1.cell? ⟨x,4,none⟩=some c4:=(HX.out.ext h3).cell 4;have f4:=(HX.out.ext h3).frozen 4;clear h1 h2 h3)
 have X1:=aA (show aL (w1.setCell ⟨x,4,none⟩ (.pointer (some ⟨xs,0,none⟩))) x 131 (r6 width most (gl+1) GA gl cG (.pointer (some ⟨xs,0,none⟩)) c5 c6 c7 c8 c9 c10) from (HX.out.ext R3.out).set_ 4 _)
 have M1:=aA ((O_.out.new On R3.out 4 (.pointer (some ⟨xs,0,none⟩)) (v':=pH x width most gs GA cG xs 0 0 none 0 [] 0 0 0) 2 (B':=fun b=>b=xs) (fun b hb=>by subst hb;exact ⟨R2.out,R1.out.lt _ rfl⟩)
  (fun hC aZ=>R1.out.chg hC aZ) (fun i hi aZ h=>j6 i (by omega) (fun e=>absurd e aZ) (fun _=>rfl) (fun _=>rfl) (fun _=>rfl) (fun _=>rfl) (fun _=>rfl) (fun _=>rfl) (fun _ _=>rfl) h)))
 clear HX O_ R1 R2 R3 b4 f4 HR
 generalize w1.setCell ⟨x,4,none⟩ (.pointer (some ⟨xs,0,none⟩))=wa at *
 generalize (aP.with_ (fun _=>none) 1 Bg).with_ 2 (fun b=>b=xs)=lab1 at *
 have b5:(wa.alloc (.map #[] 0)).cell? ⟨x,5,none⟩=some c5:=(X1.out.ext (aD.alloc wa _)).cell 5
 have f5:(wa.alloc (.map #[] 0)).frozen? ⟨x,5,none⟩=false:=(X1.out.ext (aD.alloc wa _)).frozen 5
 go_upto_region 2 with fail
 have X2:=aA (show aL ((wa.alloc (.map #[] 0)).setCell ⟨x,5,none⟩ (.map (some wa.heap.size))) x 131 (r6 width most (gl+1) GA gl cG (.pointer (some ⟨xs,0,none⟩)) (.map (some wa.heap.size)) c6 c7 c8 c9 c10) from (X1.out.ext (aD.alloc wa _)).set_ 5 _)
 have M2:=aA ((M1.out.new On (aD.alloc wa (.map #[] 0)) 5 (.map (some wa.heap.size)) (v':=pH x width most gs GA cG xs wa.heap.size 0 none 0 [] 0 0 0) 3 (B':=fun b=>b=wa.heap.size) (fun b hb=>by subst hb;simp)
  (fun hC aZ=>⟨rfl,0,Nat.le_refl _,(lE.made wa).chg hC (aZ _ rfl)⟩) (fun i hi aZ h=>j6 i (by omega) (fun _=>rfl) (fun e=>absurd e aZ) (fun _=>rfl) (fun _=>rfl) (fun _=>rfl) (fun _=>rfl) (fun _=>rfl) (fun _ _=>rfl) h)))
 clear X1 M1 b5 f5
 generalize (wa.alloc (.map #[] 0)).setCell ⟨x,5,none⟩ (.map (some wa.heap.size))=wb at *
 generalize wa.heap.size=rm at *
 generalize lab1.with_ 3 (fun b=>b=rm)=lab2 at *
 have a1:wb.cell? ⟨x,1,none⟩=some (.int .i64 most):=X2.out.cell 1
 go_upto_region 3 with ((with_reducible refine (HW.out _).mono ?_);rintro e w1 ⟨xw,rfl,h1,h3⟩;have R1:=aA h1;have R3:=aA h3;have b6:w1.cell? ⟨x,6,none⟩=some c6:=(X2.out.ext h3).cell 6;have f6:=(X2.out.ext h3).frozen 6;clear h1 h3)
 have X3:=aA (show aL (w1.setCell ⟨x,6,none⟩ (.pointer (some ⟨xw,0,none⟩))) x 131 (r6 width most (gl+1) GA gl cG (.pointer (some ⟨xs,0,none⟩)) (.map (some rm)) (.pointer (some ⟨xw,0,none⟩)) c7 c8 c9 c10) from (X2.out.ext R3.out).set_ 6 _)
 have M3:=aA ((M2.out.new On R3.out 6 (.pointer (some ⟨xw,0,none⟩)) (v':=pH x width most gs GA cG xs rm xw none 0 [] 0 0 0) 4 (fun b hb=>hb)
  (fun hC aZ=>⟨0,Nat.le_refl _,R1.out.far hC aZ⟩) (fun i hi aZ h=>j6 i (by omega) (fun _=>rfl) (fun _=>rfl) (fun e=>absurd e aZ) (fun _=>rfl) (fun _=>rfl) (fun _=>rfl) (fun _=>rfl) (fun _ _=>rfl) h)))
 clear X2 M2 b6 f6 R1 R3 a1
 generalize w1.setCell ⟨x,6,none⟩ (.pointer (some ⟨xw,0,none⟩))=wc at *
 generalize lab2.with_ 4 _=lab3 at *
 have b7:wc.cell? ⟨x,7,none⟩=some c7:=X3.out.cell 7
 have f7:=X3.out.frozen 7
 go_upto_region 4 with fail
 have X4:=aA (show aL (wc.setCell ⟨x,7,none⟩ (.slice none 0 0)) x 131 (r6 width most (gl+1) GA gl cG (.pointer (some ⟨xs,0,none⟩)) (.map (some rm)) (.pointer (some ⟨xw,0,none⟩)) (.slice none 0 0) c8 c9 c10) from X3.out.set_ 7 _)
 have M4:=aA (M3.out.set 7 (.slice none 0 0))
 clear X3 M3 b7 f7
 generalize wc.setCell ⟨x,7,none⟩ (.slice none 0 0)=wd at *
 have a3:wd.cell? ⟨x,3,none⟩=some (.slice GA gl cG):=X4.out.cell 3
 have ziU:=aA (show Wc w wd x Bg width most gs GA gl cG xs rm xw c8 c9 c10 (fun i=>i=4∨i=3∨i=2∨i=1∨i=8∨10≤i) 0 from ⟨lab3,none,0,[],rfl,M4.out,X4.out,aJ.nil _ _ _ _⟩)
 clear X4 M4
 have qx:(0:Int)≤(gl:Int):=by omega
 go_wp2_with fail
 clear a3
 go_loopw [2,3,38] (fun _ _ s38 w'=>∃ k:Nat,k≤gl∧s38=.int .i64 k∧Hid (Wc w w' x Bg width most gs GA gl cG xs rm xw c8 c9 c10 (fun i=>i=4∨i=3∨i=2∨i=1∨i=8∨10≤i) k)) (fun _ _ s38 _=>gl - (intOf s38).toNat)
 case atStart=>exact ⟨0,by omega,rfl,ziU⟩
 case round=>
  obtain ⟨k,Ix,rfl,hG⟩:=hrel
  clear ziU
  obtain ⟨lab,gA,gC,gx,rV,m5,x5,o5⟩:=hG.out
  have M5:=aA m5;have X5:=aA x5;have O5:=aA o5;have zh7:=aA rV
  clear m5 x5 o5 rV hG
  by_cases hk:k<gl
  ·have a1:wr.cell? ⟨x,1,none⟩=some (.int .i64 most):=X5.out.cell 1
   go_upto_region 7 with ((with_reducible refine (HW.out _).mono ?_);rintro e w1 ⟨xk,rfl,h1,h3⟩;have R1:=aA h1;have R3:=aA h3;clear h1 h3)
   have B6:=aA ((X5.out.ext R3.out).ext (aD.alloc w1 (.cells #[.pointer (some ⟨xk,0,none⟩)] 125)))
   have O6:=aA ((O5.out.ext R3.out).ext (aD.alloc w1 (.cells #[.pointer (some ⟨xk,0,none⟩)] 125)))
   have HS:=aA (show Sl (w1.alloc (.cells #[.pointer (some ⟨xk,0,none⟩)] 125)) (some ⟨w1.heap.size,0,none⟩) 1 1 [.pointer (some ⟨xk,0,none⟩)] from (aL.new w1 _ _).sl rfl)
   have dG:=aA (show aQ [Value.pointer (some ⟨xk,0,none⟩)] from fun v hv=>by simp at hv;rw [hv];rfl)
   have a7:w1.cell? ⟨x,7,none⟩=some (.slice gA k gC):=(X5.out.ext R3.out).cell 7
   go_upto_region 8 with (at_builtin;refine aI rfl (.tmp 52) (.tmp 54) _ rfl (fun b=>w.heap.size≤b∧b<wr.heap.size∧¬ lab.dom b∧b≠x) 125 i0 _ 1 8 Tryz.underlying126 eQ hz0 hz1 eO rfl (by omega) (.slice gA k gC) k (lF gx) rfl O6.out _ 1 1 _ rfl HS.out dG.out (by unfold maxLen;omega) (by omega) ?_;intro A8 g8 w8 own8 G8 C8;have fQ:=(B6.out.grown G8.out (aN O6.out.own B6.out (by decide)));have f8:=fQ.frozen 7;have v8:=fQ.cell 7;clear fQ)
   have zfU:=aA (Wc.push On zh7.out M5.out X5.out O5.out R1.out R3.out own8.out G8.out C8.out)
   clear M5 X5 O5 R1 R3 own8 G8 C8 f8 v8 B6 O6 HS dG a7 a1
   go_wp2_with fail
   go_roundw
   case rel=>exact ⟨k+1,by omega,by go_num,zfU⟩
   case measure=>simp [intOf];omega
  ·obtain rfl:k=gl:=by omega
   clear HW
   have a1:wr.cell? ⟨x,1,none⟩=some (.int .i64 most):=X5.out.cell 1
   obtain ⟨L1,xm⟩ : ∃ L1,k+1=L1:=⟨_,rfl⟩
   have a2:wr.cell? ⟨x,2,none⟩=some (.int .i64 (L1:Int)):=by rw [← xm];exact X5.out.cell 2
   obtain ⟨q,q1,HQ,zhO,hwq,hwq1⟩:=Tl most L1 (by rw [← xm];omega)
   rw [xm] at HI HO
   have Zj:=aA xm
   clear xm
   rw [← HQ.out] at HI HO
   rw [← zhO.out] at HO
   go_upto_region 9 with fail
   have a1:=aB a1;have a2:=aB a2
   refine rF 10 _ rfl (by kernel_rfl) (by kernel_rfl) (by kernel_rfl) (fun _ _ _ _ _ h=>h) ?_
   refine ⟨_,_,?_,rfl,?_⟩;rotate_left
   refine ⟨⟨by kernel_rfl,fun w9=>?_⟩,fun _ _ _ h=>h,fun K hK=>?_⟩
   ·go_simp;first | done | rfl
   go_simp;refine hK _ _ ?_;clear hK K
   iterate 9
    refine aK (by kernel_rfl) (by kernel_rfl) ?_
    apply Exists.intro
    refine ⟨fun w1 aT=>?_,fun K hK=>?_⟩
    ·go_simp;first | done | rfl
    go_simp;refine hK _ _ ?_;clear hK K
   refine aH ⟨rfl,by kernel_rfl,fun w5 hw5=>?_⟩
   simp only [bL,List.drop,List.take,List.dropLast]
   clear a1 a2
   have X6:=aA (X5.out.ext hw5);have M6:=aA (M5.out.ext hw5);have O6:=aA (LayO.up (O5.out.ext hw5) hw5.size)
   clear X5 M5 O5 hw5
   go_wp2_with ((with_reducible refine (HI.out _).mono ?_);rintro e w1 ⟨xl,rfl,h1,h2,h3⟩;have R1:=aA h1;have R2:=aA h2;have R3:=aA h3;have b8:w1.cell? ⟨x,8,none⟩=some c8:=(X6.out.ext h3).cell 8;have f8:=(X6.out.ext h3).frozen 8;clear h1 h2 h3)
   simp only [zdS]
   unfold J6
   apply Exists.intro
   refine ⟨fun w9=>?_,fun K hK=>?_⟩
   ·go_simp;first | done | rfl
   go_simp;refine hK _ ?_;clear hK K
   unfold J6
   apply Exists.intro
   refine ⟨fun w9=>?_,fun K hK=>?_⟩
   ·go_simp;first | done | rfl
   go_simp;refine hK _ ?_;clear hK K
   unfold J6
   apply Exists.intro
   refine ⟨fun w9=>?_,fun K hK=>?_⟩
   ·go_simp;first | done | rfl
   go_simp;refine hK _ ?_;clear hK K
   unfold J6
   apply Exists.intro
   refine ⟨fun w9=>?_,fun K hK=>?_⟩
   ·go_simp;first | done | rfl
   go_simp;refine hK _ ?_;clear hK K
   unfold J6
   apply Exists.intro
   refine ⟨fun w9=>?_,fun K hK=>?_⟩
   ·go_simp;first | done | rfl
   go_simp;refine hK _ ?_;clear hK K
   unfold J6
   go_upto_region 10 with fail
   have pZ:=Zj.out
   have zeT:=Vf.out
   have e1:(pH x width most gs GA cG xs rm xw gA gC gx 0 0 0).L=L1:=by rw [← pZ,← zeT];rfl
   have X7:=aA (show aL (w1.setCell ⟨x,8,none⟩ (.pointer (some ⟨xl,0,none⟩))) x 131 (r6 width most (k+1) GA k cG (.pointer (some ⟨xs,0,none⟩)) (.map (some rm)) (.pointer (some ⟨xw,0,none⟩)) (.slice gA k gC) (.pointer (some ⟨xl,0,none⟩)) c9 c10) from (X6.out.ext R3.out).set_ 8 _)
   have M7:=aA ((M6.out.new On R3.out 8 (.pointer (some ⟨xl,0,none⟩)) (v':=pH x width most gs GA cG xs rm xw gA gC gx xl 0 0) 5 (B':=fun b=>b=xl) (fun b hb=>by subst hb;exact ⟨R2.out,R1.out.lt _ rfl⟩)
    (fun hC aZ=>by
     have h9:=R1.out.chg hC aZ
     rw [HQ.out,← e1] at h9
     exact h9) (fun i hi aZ h=>j6 i (by omega) (fun _=>rfl) (fun _=>rfl) (fun _=>rfl) (fun e=>absurd e aZ) (fun _=>rfl) (fun _=>rfl) (fun _=>rfl) (fun _ _=>rfl) h)))
   have O7:=aA (LayO.new (O6.out.ext R3.out) (X6.out.ext R3.out) (j:=5) (B':=fun b=>b=xl) 8 (.pointer (some ⟨xl,0,none⟩)) (fun b hb=>by subst hb;exact R2.out))
   clear X6 M6 O6 R1 R2 R3 b8 f8 HI pZ zeT e1
   generalize w1.setCell ⟨x,8,none⟩ (.pointer (some ⟨xl,0,none⟩))=we at *
   generalize lab.with_ 5 _=lab5 at *
   have b9:(we.alloc (.map #[] 0)).cell? ⟨x,9,none⟩=some c9:=(X7.out.ext (aD.alloc we _)).cell 9
   have f9:(we.alloc (.map #[] 0)).frozen? ⟨x,9,none⟩=false:=(X7.out.ext (aD.alloc we _)).frozen 9
   go_upto_region 11 with fail
   have X8:=aA (show aL ((we.alloc (.map #[] 0)).setCell ⟨x,9,none⟩ (.map (some we.heap.size))) x 131 (r6 width most (k+1) GA k cG (.pointer (some ⟨xs,0,none⟩)) (.map (some rm)) (.pointer (some ⟨xw,0,none⟩)) (.slice gA k gC) (.pointer (some ⟨xl,0,none⟩)) (.map (some we.heap.size)) c10) from (X7.out.ext (aD.alloc we _)).set_ 9 _)
   have M8:=aA ((M7.out.new On (aD.alloc we (.map #[] 0)) 9 (.map (some we.heap.size)) (v':=pH x width most gs GA cG xs rm xw gA gC gx xl we.heap.size 0) 6 (B':=fun b=>b=we.heap.size) (fun b hb=>by subst hb;simp)
    (fun hC aZ=>⟨rfl,0,Nat.le_refl _,(lE.made we).chg hC (aZ _ rfl)⟩) (fun i hi aZ h=>j6 i (by omega) (fun _=>rfl) (fun _=>rfl) (fun _=>rfl) (fun _=>rfl) (fun e=>absurd e aZ) (fun _=>rfl) (fun _=>rfl) (fun _ _=>rfl) h)))
   have O8:=aA (LayO.new (O7.out.ext (aD.alloc we (.map #[] 0))) (X7.out.ext (aD.alloc we _)) (j:=6) (B':=fun b=>b=we.heap.size) 9 (.map (some we.heap.size)) (fun b hb=>by subst hb;exact Nat.le_refl _))
   clear X7 M7 O7 b9 f9
   generalize (we.alloc (.map #[] 0)).setCell ⟨x,9,none⟩ (.map (some we.heap.size))=wf at *
   generalize we.heap.size=lm at *
   generalize lab5.with_ 6 _=lab6 at *
   have a1:wf.cell? ⟨x,1,none⟩=some (.int .i64 most):=X8.out.cell 1
   have a2:wf.cell? ⟨x,2,none⟩=some (.int .i64 (L1:Int)):=by rw [← Zj.out];exact X8.out.cell 2
   have a1:=aB a1;have a2:=aB a2
   refine rF 20 _ rfl (by kernel_rfl) (by kernel_rfl) (by kernel_rfl) (fun _ _ _ _ _ h=>h) ?_
   refine ⟨_,_,?_,rfl,?_⟩;rotate_left
   refine ⟨⟨by kernel_rfl,fun w9=>?_⟩,fun _ _ _ h=>h,fun K hK=>?_⟩
   ·go_simp;first | done | rfl
   go_simp;refine hK _ _ ?_;clear hK K
   iterate 19
    refine aK (by kernel_rfl) (by kernel_rfl) ?_
    apply Exists.intro
    refine ⟨fun w1 aT=>?_,fun K hK=>?_⟩
    ·go_simp;first | done | rfl
    go_simp;refine hK _ _ ?_;clear hK K
   refine aH ⟨rfl,by kernel_rfl,fun wg hwg=>?_⟩
   simp only [bL,List.drop,List.take,List.dropLast]
   clear a1 a2
   have X9:=aA (X8.out.ext hwg);have M9:=aA (M8.out.ext hwg);have O9:=aA (LayO.up (O8.out.ext hwg) hwg.size)
   clear X8 M8 O8 hwg
   go_wp2_with ((with_reducible refine (HO.out _).mono ?_);rintro e w1 ⟨xo,rfl,h1,h2,h3⟩;have R1:=aA h1;have R2:=aA h2;have R3:=aA h3;have b10:w1.cell? ⟨x,10,none⟩=some c10:=(X9.out.ext h3).cell 10;have f10:=(X9.out.ext h3).frozen 10;clear h1 h2 h3)
   simp only [zdS]
   unfold J6
   apply Exists.intro
   refine ⟨fun w9=>?_,fun K hK=>?_⟩
   ·go_simp;first | done | rfl
   go_simp;refine hK _ ?_;clear hK K
   unfold J6
   apply Exists.intro
   refine ⟨fun w9=>?_,fun K hK=>?_⟩
   ·go_simp;first | done | rfl
   go_simp;refine hK _ ?_;clear hK K
   unfold J6
   apply Exists.intro
   refine ⟨fun w9=>?_,fun K hK=>?_⟩
   ·go_simp;first | done | rfl
   go_simp;refine hK _ ?_;clear hK K
   unfold J6
   apply Exists.intro
   refine ⟨fun w9=>?_,fun K hK=>?_⟩
   ·go_simp;first | done | rfl
   go_simp;refine hK _ ?_;clear hK K
   unfold J6
   apply Exists.intro
   refine ⟨fun w9=>?_,fun K hK=>?_⟩
   ·go_simp;first | done | rfl
   go_simp;refine hK _ ?_;clear hK K
   unfold J6
   go_wp2_with fail
   have pZ:=Zj.out
   have zeT:=Vf.out
   have e1:(pH x width most gs GA cG xs rm xw gA gC gx 0 0 0).L=L1:=by rw [← pZ,← zeT];rfl
   have XE:aL (w1.setCell ⟨x,10,none⟩ (.pointer (some ⟨xo,0,none⟩))) x 131 (r6 width most (k+1) GA k cG (.pointer (some ⟨xs,0,none⟩)) (.map (some rm)) (.pointer (some ⟨xw,0,none⟩)) (.slice gA k gC) (.pointer (some ⟨xl,0,none⟩)) (.map (some lm)) (.pointer (some ⟨xo,0,none⟩))):=(X9.out.ext R3.out).set_ 10 _
   have ME:=(M9.out.new On R3.out 10 (.pointer (some ⟨xo,0,none⟩)) (v':=pH x width most gs GA cG xs rm xw gA gC gx xl lm xo) 7 (B':=fun b=>b=xo) (fun b hb=>by subst hb;exact ⟨R2.out,R1.out.lt _ rfl⟩)
    (fun hC aZ=>by
     have h9:=R1.out.chg hC aZ
     rw [zhO.out,HQ.out,← e1] at h9
     exact h9) (fun i hi aZ h=>j6 i (by omega) (fun _=>rfl) (fun _=>rfl) (fun _=>rfl) (fun _=>rfl) (fun _=>rfl) (fun e=>absurd e aZ) (fun _=>rfl) (fun _ _=>rfl) h))
   have OE:=LayO.new (O9.out.ext R3.out) (X9.out.ext R3.out) (j:=7) (B':=fun b=>b=xo) 10 (.pointer (some ⟨xo,0,none⟩)) (fun b hb=>by subst hb;exact R2.out)
   refine bodyPost_end (v:=.tuple #[]) (by simp [results,Tryz.results80,go_sem]) rfl ?_
   exact ⟨rfl,yW.done ME XE OE zh7.out Vf.out fun i hi=>hi⟩
end Go.Proofs.YtahdiiaadjdmcaaGreat
