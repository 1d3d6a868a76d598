import Derived.Test.YtahdiiaadjdmcaaGreatNgI
namespace Go.Proofs.YtahdiiaadjdmcaaGreat
open Go.RowKit
def nN (xs:List Int):Nat→Int
 | 0=>-1
 | i+1=>xs[i]?.getD (-1)
set_option maxRecDepth 100000 in
set_option maxHeartbeats 2000000 in
theorem tJ {w:World} {A:Option Addr} {n:Nat} (c:Nat) {xs:List Int} (h:cB w A n xs) (hn:n≤1048576) (width:Int) :
 Calls Tryz.prog 64 #[.slice A n c,.int .i64 width] w fun e w'=>e=.returned (.bool (bA width (-1) xs))∧aD w w':=by
 have HN:=aA h
 have HL:=aA h.1
 obtain ⟨z,hz⟩ : ∃ z,bA width (-1) xs=z:=⟨_,rfl⟩
 rw [hz]
 have HZ:=aA hz
 clear h hz
 go_enter Tryz.func64,Tryz.ntmps64
 go_wp2_with fail
 go_loopw [5] (fun s5 w'=>∃ i:Nat,i≤n∧s5=.int .i64 i∧Hid (z=bA width (nN xs i) (xs.drop i))∧Hid (-1≤nN xs i∧(0<i→0≤nN xs i))∧Hid (aD w w')) (fun s5 _=>n - (intOf s5).toNat)
 case atStart=>exact ⟨0,by omega,rfl,HZ.out.symm,⟨Int.le_refl _,fun h=>absurd h (by decide)⟩,aD.refl _⟩
 case round=>
  obtain ⟨i,hi,rfl,hq,hl,hX⟩:=hrel
  by_cases j0:i<n
  ·obtain ⟨b,off,x,rfl,hx,-,cV⟩:=(HN.out.ext hX.out).get j0
   have zhp:(i:Int)<(n:Int):=by omega
   have Mz:i<xs.length:=by have:=HL.out;omega
   have fI:=aA (show z=(decide (nN xs i<x) && (decide (x<width) && bA width x (xs.drop (i+1)))) by
    rw [hq.out,List.drop_eq_getElem_cons Mz]
    rw [List.getElem?_eq_getElem Mz] at hx
    rw [Option.some.inj hx];rfl)
   have rT:=aA (show nN xs (i+1)=x by show (xs[i]?).getD (-1)=x;rw [hx];rfl)
   clear hx Mz
   have cV:=aB cV
   by_cases zeM:x<0
   ·go_upto_region 4 with fail
    refine aC 29 (by kernel_rfl) (by kernel_rfl) (by kernel_rfl) ?_
    iterate 29
     refine aK (by kernel_rfl) (by kernel_rfl) ?_
     apply Exists.intro
     refine ⟨fun w1 aT=>?_,fun K hK=>?_⟩
     ·go_simp;first | done | rfl
     go_simp;refine hK _ _ ?_;clear hK K
    refine aH ⟨rfl,by kernel_rfl,fun wq hwq=>?_⟩
    simp only [bL]
    refine wpList_nil ?_
    have HW:=aA hwq
    have oU:=aA (show z=false by rw [fI.out,decide_eq_false (p:=nN xs i<x) (by have:=hl.out;omega)];rfl)
    clear hwq cV
    go_wp2_with fail
    go_ret
    exact ⟨by rw [oU.out];rfl,hX.out.trans HW.out⟩
   ·by_cases mG:width≤x
    ·go_upto_region 4 with fail
     refine aC 29 (by kernel_rfl) (by kernel_rfl) (by kernel_rfl) ?_
     iterate 29
      refine aK (by kernel_rfl) (by kernel_rfl) ?_
      apply Exists.intro
      refine ⟨fun w1 aT=>?_,fun K hK=>?_⟩
      ·go_simp;first | done | rfl
      go_simp;refine hK _ _ ?_;clear hK K
     refine aH ⟨rfl,by kernel_rfl,fun wq hwq=>?_⟩
     simp only [bL]
     refine wpList_nil ?_
     have HW:=aA hwq
     have oU:=aA (show z=false by rw [fI.out,decide_eq_false (p:=x<width) (by omega),Bool.false_and,Bool.and_false])
     clear hwq cV
     go_wp2_with fail
     go_ret
     exact ⟨by rw [oU.out];rfl,hX.out.trans HW.out⟩
    ·by_cases eQ:i=0
     ·subst eQ
      have bC:=aA (show (-1:Int)<x∧x<width by omega)
      have nC:=aA (show z=bA width (nN xs 1) (xs.drop 1) by rw [fI.out,rT.out,decide_eq_true (p:=x<width) bC.out.2,decide_eq_true (p:=nN xs 0<x) bC.out.1];rfl)
      have rZ:=aA (show -1≤nN xs 1∧(0<1→0≤nN xs 1) by rw [rT.out];have:=bC.out;omega)
      have HM:=aA (show 1≤n by omega)
      have cV:∀ w',aD wr w'→w'.cell? ⟨b,off,none⟩=some (.int .i64 x):=cV
      go_upto_region 4 with fail
      refine aC 29 (by kernel_rfl) (by kernel_rfl) (by kernel_rfl) ?_
      iterate 29
       refine aK (by kernel_rfl) (by kernel_rfl) ?_
       apply Exists.intro
       refine ⟨fun w1 aT=>?_,fun K hK=>?_⟩
       ·go_simp;first | done | rfl
       go_simp;refine hK _ _ ?_;clear hK K
      refine aH ⟨rfl,by kernel_rfl,fun wq hwq=>?_⟩
      simp only [bL]
      refine wpList_nil ?_
      have HW:=aA hwq
      clear hwq cV
      go_wp2_with fail
      go_roundw
      case rel=>exact ⟨1,HM.out,rfl,nC,rZ,hX.out.trans HW.out⟩
      case measure=>simp [intOf];have:=HM.out;omega
     ·obtain ⟨j,hj⟩ : ∃ j,i=j+1:=⟨i - 1,by omega⟩
      obtain ⟨b2,off2,y,hA,hy,-,Gm⟩:=(HN.out.ext hX.out).get (show j<n by omega)
      injection hA with hA
      injection hA with e1 e2
      subst e1;subst e2
      have zhX:=aA (show nN xs i=y by rw [hj];show (xs[j]?).getD (-1)=y;rw [hy];rfl)
      clear hy
      have Fz:(j:Int)<(n:Int):=by omega
      have zbr:(0:Int)<(i:Int):=by omega
      have zkP:0<i:=by omega
      have zkO:IntKind.i64.wrap (j:Int)=(j:Int):=IntWalk.i64_in _ (by omega)
      have zcm:(i:Int) - 1=(j:Int):=by omega
      have HM:=aA (show i+1≤n by omega)
      have Gm:=aB Gm
      have rZ:=aA (show -1≤nN xs (i+1)∧(0<i+1→0≤nN xs (i+1)) by rw [rT.out];omega)
      clear hj eQ
      by_cases Cq:x≤y
      ·have oU:=aA (show z=false by rw [fI.out,zhX.out,decide_eq_false (p:=y<x) (by omega)];rfl)
       go_upto_region 4 with fail
       refine aC 29 (by kernel_rfl) (by kernel_rfl) (by kernel_rfl) ?_
       iterate 29
        refine aK (by kernel_rfl) (by kernel_rfl) ?_
        apply Exists.intro
        refine ⟨fun w1 aT=>?_,fun K hK=>?_⟩
        ·go_simp;first | done | rfl
        go_simp;refine hK _ _ ?_;clear hK K
       refine aH ⟨rfl,by kernel_rfl,fun wq hwq=>?_⟩
       simp only [bL]
       refine wpList_nil ?_
       have HW:=aA hwq
       clear hwq cV Gm
       go_wp2_with fail
       go_ret
       exact ⟨by rw [oU.out];rfl,hX.out.trans HW.out⟩
      ·have nC:=aA (show z=bA width (nN xs (i+1)) (xs.drop (i+1)) by rw [fI.out,zhX.out,rT.out,decide_eq_true (p:=x<width) (by omega),decide_eq_true (p:=y<x) (by omega)];rfl)
       go_upto_region 4 with fail
       refine aC 29 (by kernel_rfl) (by kernel_rfl) (by kernel_rfl) ?_
       iterate 29
        refine aK (by kernel_rfl) (by kernel_rfl) ?_
        apply Exists.intro
        refine ⟨fun w1 aT=>?_,fun K hK=>?_⟩
        ·go_simp;first | done | rfl
        go_simp;refine hK _ _ ?_;clear hK K
       refine aH ⟨rfl,by kernel_rfl,fun wq hwq=>?_⟩
       simp only [bL]
       refine wpList_nil ?_
       have HW:=aA hwq
       clear hwq cV Gm zcm
       go_wp2_with fail
       go_roundw
       case rel=>exact ⟨i+1,HM.out,by go_num,nC,rZ,hX.out.trans HW.out⟩
       case measure=>simp [intOf];have:=HM.out;omega
  ·obtain rfl:i=n:=by omega
   have he:z=true:=by rw [hq.out,List.drop_eq_nil_of_le (by have:=HL.out;omega)];rfl
   clear hq HZ HL
   subst he
   go_wp2_with fail
   go_ret
   exact ⟨rfl,hX.out⟩
theorem qO {s:SP} (h:kS s→False):s.good=false:=by
 cases hg:s.good with
 | false=>rfl
 | true=>exact (h (tH hg)).elim
theorem G0 {n:Nat} (h:(0:Int)<(n:Int)):((n:Int) == 0)=false:=beq_false_of_ne (by omega)
theorem Ic {n:Nat} (h:¬ (0:Int)<(n:Int)):((n:Int) == 0)=true:=by rw [show (n:Int)=0 by omega];rfl
set_option maxRecDepth 100000 in
set_option maxHeartbeats 2000000 in
theorem Wo {w:World} {s:SP} {L:Cv} (h:j9 w s L) :
 Calls Tryz.prog 31 #[.agg (bQ s L)] w fun e w'=>e=.returned (.bool s.good)∧aD w w':=by
 obtain ⟨g,hg⟩ : ∃ g,w.heap.size=g:=⟨_,rfl⟩
 obtain ⟨w0,Ce⟩ : ∃ w0,w.alloc (.cells (bQ s L) 68)=w0:=⟨_,rfl⟩
 have hb:=aL.new w 68 (bQ s L)
 have he:=aD.alloc w (.cells (bQ s L) 68)
 rw [Ce] at hb he
 rw [hg] at hb
 have HE:=aA he
 have HB:=aA hb
 have b0:w0.cell? ⟨g,0,none⟩=some (.int .i64 s.kind):=hb.cell 0
 have b1:w0.cell? ⟨g,1,none⟩=some (.int .i64 s.inn):=hb.cell 1
 have b2:w0.cell? ⟨g,2,none⟩=some (.slice L.kA s.keep.length L.kC):=hb.cell 2
 have b3:w0.cell? ⟨g,3,none⟩=some (.slice L.sA s.side.length L.sC):=hb.cell 3
 have b4:w0.cell? ⟨g,4,none⟩=some (.slice L.uA s.up.length L.uC):=hb.cell 4
 have b5:w0.cell? ⟨g,5,none⟩=some (.int .i64 s.most):=hb.cell 5
 have HR:=aA (fun (w1:World) (h1:aD w0 w1)=>tJ L.kC (h.ext (he.trans h1)).keep h.kl s.inn)
 have HS:=aA (fun (w1:World) (h1:aD w0 w1)=>tJ L.sC (h.ext (he.trans h1)).side h.sl s.inn)
 have HU:=aA (fun (w1:World) (h1:aD w0 w1)=>tJ L.uC (h.ext (he.trans h1)).up h.ul s.width)
 clear h hb he
 obtain ⟨z,hz⟩ : ∃ z,s.good=z:=⟨_,rfl⟩
 rw [hz]
 have HZ:=aA hz
 clear hz
 unfold bQ at *
 go_enter Tryz.func31,Tryz.ntmps31
 by_cases h0:s.inn<0
 ·have oU:=aA (show z=false by rw [← HZ.out];exact qO fun h=>by have:=h.inn;omega)
  go_wp2_with fail
  go_ret
  exact ⟨by rw [oU.out];rfl,HE.out⟩
 by_cases h1:30<s.inn
 ·have oU:=aA (show z=false by rw [← HZ.out];exact qO fun h=>by have:=h.inn;omega)
  go_wp2_with fail
  go_ret
  exact ⟨by rw [oU.out];rfl,HE.out⟩
 by_cases h2:s.most<1
 ·have oU:=aA (show z=false by rw [← HZ.out];exact qO fun h=>by have:=h.most;omega)
  go_wp2_with fail
  go_ret
  exact ⟨by rw [oU.out];rfl,HE.out⟩
 by_cases h3:65536<s.most
 ·have oU:=aA (show z=false by rw [← HZ.out];exact qO fun h=>by have:=h.most;omega)
  go_wp2_with fail
  go_ret
  exact ⟨by rw [oU.out];rfl,HE.out⟩
 have zas:=aA (L2 (s:=s) (by omega) (by omega) (by omega) (by omega))
 go_upto_region 4 with fail
 clear h0 h1 h2 h3 Ce hg
 by_cases k2:s.kind=2
 ·have HG:=aA (F5 (s:=s) (.inr (.inl k2)))
  have hw:=aA (show s.width=(s.keep.length:Int) by unfold SP.width;rw [if_pos k2])
  have yk:=aA (Vz k2);have p_:=aA (Fv (s:=s) (by omega))
  generalize s.keep.length=kn at *
  generalize s.side.length=sn at *
  have q2:(s.kind == 2)=true:=by simp [k2]
  clear k2
  have HU:=aA HU.out
  rw [hw.out] at HU
  have HC:=aA (HR.out w0 (aD.refl _))
  clear HR HS
  generalize bA s.inn (-1) s.keep=rb at *
  cases rb with
  |false=>
   have oU:=aA (show z=false by rw [← HZ.out,HG.out,yk.out];rfl)
   go_wp2_with ((with_reducible refine HC.out.mono ?_);rintro e w2 ⟨rfl,x2⟩;have X2:=aA x2;clear x2)
   go_ret
   exact ⟨by rw [oU.out];rfl,HE.out.trans X2.out⟩
  |true=>
   by_cases kl:s.inn≤(kn:Int)
   ·have oU:=aA (show z=false by rw [← HZ.out,HG.out,yk.out,decide_eq_false (p:=(kn:Int)<s.inn) (by omega)];rfl)
    go_wp2_with ((with_reducible refine HC.out.mono ?_);rintro e w2 ⟨rfl,x2⟩;have X2:=aA x2;have b1:=x2.cell b1;have b2:=x2.cell b2;have b3:=x2.cell b3;clear x2)
    go_ret
    exact ⟨by rw [oU.out];rfl,HE.out.trans X2.out⟩
   ·by_cases sl:(0:Int)<(sn:Int)
    ·have oU:=aA (show z=false by rw [← HZ.out,HG.out,p_.out,G0 sl];cases s.keepOk <;> rfl)
     go_wp2_with ((with_reducible refine HC.out.mono ?_);rintro e w2 ⟨rfl,x2⟩;have X2:=aA x2;have b1:=x2.cell b1;have b2:=x2.cell b2;have b3:=x2.cell b3;clear x2)
     go_ret
     exact ⟨by rw [oU.out];rfl,HE.out.trans X2.out⟩
    ·have oU:=aA (show z=bA s.width (-1) s.up by rw [← HZ.out,HG.out,yk.out,p_.out,zas.out,decide_eq_true (p:=(kn:Int)<s.inn) (by omega),Ic sl];rfl)
     rw [hw.out] at oU
     have HU:=aA HU.out
     generalize bA (kn:Int) (-1) s.up=ub at *
     go_wp2_with (first
      | ((with_reducible refine HC.out.mono ?_);rintro e w2 ⟨rfl,x2⟩;have X2:=aA x2;have b1:=x2.cell b1;have b2:=x2.cell b2;have b3:=x2.cell b3;have b4:=x2.cell b4;clear x2)
      | ((with_reducible refine (HU.out w2 X2.out).mono ?_);rintro e w3 ⟨rfl,x3⟩;have X3:=aA x3;clear x3))
     go_ret
     exact ⟨by rw [oU.out];rfl,HE.out.trans (X2.out.trans X3.out)⟩
 by_cases k3:s.kind=3
 ·have HG:=aA (F5 (s:=s) (.inr (.inr k3)))
  have hw:=aA (show s.width=s.inn by unfold SP.width;rw [if_neg k2])
  have yk:=aA (Hy k2);have p_:=aA (Yk k3)
  generalize s.keep.length=kn at *
  generalize s.side.length=sn at *
  have q2:(s.kind == 2)=false:=by simp [k2]
  have q3:(s.kind == 3)=true:=by simp [k3]
  clear k2 k3
  have HU:=aA HU.out
  rw [hw.out] at HU
  have HC:=aA (HS.out w0 (aD.refl _))
  clear HR HS
  by_cases kl:(0:Int)<(kn:Int)
  ·have oU:=aA (show z=false by rw [← HZ.out,HG.out,yk.out,G0 kl];rfl)
   go_wp2_with fail
   go_ret
   exact ⟨by rw [oU.out];rfl,HE.out⟩
  ·have yG:=aA (show s.keepOk=true by rw [yk.out];exact Ic kl)
   generalize bA s.inn (-1) s.side=rb at *
   cases rb with
   |false=>
    have oU:=aA (show z=false by rw [← HZ.out,HG.out,p_.out];cases s.keepOk <;> rfl)
    go_wp2_with ((with_reducible refine HC.out.mono ?_);rintro e w2 ⟨rfl,x2⟩;have X2:=aA x2;clear x2)
    go_ret
    exact ⟨by rw [oU.out];rfl,HE.out.trans X2.out⟩
   |true=>
    have oU:=aA (show z=bA s.width (-1) s.up by rw [← HZ.out,HG.out,p_.out,zas.out,yG.out];rfl)
    rw [hw.out] at oU
    have HU:=aA HU.out
    generalize bA s.inn (-1) s.up=ub at *
    go_wp2_with (first
     | ((with_reducible refine HC.out.mono ?_);rintro e w2 ⟨rfl,x2⟩;have X2:=aA x2;have b4:=x2.cell b4;clear x2)
     | ((with_reducible refine (HU.out w2 X2.out).mono ?_);rintro e w3 ⟨rfl,x3⟩;have X3:=aA x3;clear x3))
    go_ret
    exact ⟨by rw [oU.out];rfl,HE.out.trans (X2.out.trans X3.out)⟩
 ·have hw:=aA (show s.width=s.inn by unfold SP.width;rw [if_neg k2])
  have yk:=aA (Hy k2);have p_:=aA (Fv k3)
  generalize s.keep.length=kn at *
  generalize s.side.length=sn at *
  have q2:(s.kind == 2)=false:=by simp [k2]
  have q3:(s.kind == 3)=false:=by simp [k3]
  have Y7:=aA (show s.kind≠1→z=false from fun h=>by rw [← HZ.out];exact qO fun f=>by have:=f.kind;omega)
  clear k2 k3
  have HU:=aA HU.out
  rw [hw.out] at HU
  clear HR HS
  by_cases k1:s.kind=1
  ·have HG:=aA (F5 (s:=s) (.inl k1))
   have q1:(s.kind == 1)=true:=by simp [k1]
   have q1b:(s.kind != 1)=false:=by simp [k1]
   clear k1
   by_cases kl:(0:Int)<(kn:Int)
   ·have oU:=aA (show z=false by rw [← HZ.out,HG.out,yk.out,G0 kl];rfl)
    go_wp2_with fail
    go_ret
    exact ⟨by rw [oU.out];rfl,HE.out⟩
   ·have yG:=aA (show s.keepOk=true by rw [yk.out];exact Ic kl)
    by_cases sl:(0:Int)<(sn:Int)
    ·have oU:=aA (show z=false by rw [← HZ.out,HG.out,p_.out,G0 sl];cases s.keepOk <;> rfl)
     go_wp2_with fail
     go_ret
     exact ⟨by rw [oU.out];rfl,HE.out⟩
    ·have zjK:=aA (show s.sideOk=true by rw [p_.out];exact Ic sl)
     have oU:=aA (show z=bA s.width (-1) s.up by rw [← HZ.out,HG.out,zas.out,yG.out,zjK.out];rfl)
     rw [hw.out] at oU
     have HC:=aA (HU.out w0 (aD.refl _))
     generalize bA s.inn (-1) s.up=ub at *
     go_wp2_with ((with_reducible refine HC.out.mono ?_);rintro e w3 ⟨rfl,x3⟩;have X3:=aA x3;clear x3)
     go_ret
     exact ⟨by rw [oU.out];rfl,HE.out.trans X3.out⟩
  ·have oU:=aA (Y7.out k1)
   have q1b:(s.kind != 1)=true:=by simp [k1]
   clear k1
   go_wp2_with fail
   go_ret
   exact ⟨by rw [oU.out];rfl,HE.out⟩
theorem oW {w w1:World} {A:Option Addr} (c:Nat) {xs:List Int} (h:cB w A xs.length xs) (hl:xs.length≤1048576) (hw:aD w w1) :
 Calls Tryz.prog 59 #[.slice A xs.length c] w1 fun e w'=>∃ v,e=.returned v∧aD w1 w'∧Ua w.heap.size xs v w':=by
 refine (Kx xs A xs.length c w1 (h.ext hw) (by omega)).mono ?_
 rintro e w' ⟨A',c',rfl,h1,h2⟩
 exact ⟨_,rfl,h2,A',c',rfl,dI h1 hw.size⟩
theorem Fa {w:World} {g:Nat} {t:TypeId} {c0 c1 c2 c3 c4 c5:Value} (h:aL w g t #[c0,c1,c2,c3,c4,c5]) (a b c d e f:Value):aL ((((((w.setCell ⟨g,0,none⟩ a).setCell ⟨g,1,none⟩ b).setCell ⟨g,2,none⟩ c).setCell ⟨g,3,none⟩ d).setCell ⟨g,4,none⟩ e).setCell ⟨g,5,none⟩ f) g t #[a,b,c,d,e,f]:=
 (((((h.set_ 0 a).set_ 1 b).set_ 2 c).set_ 3 d).set_ 4 e).set_ 5 f
structure dL (b:Nat) (w:World) (s:SP) (L:Cv):Prop where
 keep:kD b w L.kA L.kC s.keep
 side:kD b w L.sA L.sC s.side
 up:kD b w L.uA L.uC s.up
theorem dL.ext {b:Nat} {w w':World} {s:SP} {L:Cv} (h:dL b w s L) (hw:aD w w'):dL b w' s L:=⟨h.keep.ext hw,h.side.ext hw,h.up.ext hw⟩
theorem dL.set_ {b:Nat} {w:World} {s:SP} {L:Cv} (h:dL b w s L) {g:Nat} {t:TypeId} {cs:Array Value} (hb:aL w g t cs) (aZ:3≠t) (j:Nat) (u:Value):dL b (w.setCell ⟨g,j,none⟩ u) s L:=⟨h.keep.set_ hb aZ j u,h.side.set_ hb aZ j u,h.up.set_ hb aZ j u⟩
theorem dL.six {b:Nat} {w:World} {s:SP} {L:Cv} (h:dL b w s L) {g:Nat} {t:TypeId} {cs:Array Value} (hb:aL w g t cs) (aZ:3≠t) (x0 x1 x2 x3 x4 x5:Value):dL b ((((((w.setCell ⟨g,0,none⟩ x0).setCell ⟨g,1,none⟩ x1).setCell ⟨g,2,none⟩ x2).setCell ⟨g,3,none⟩ x3).setCell ⟨g,4,none⟩ x4).setCell ⟨g,5,none⟩ x5) s L:=
 (((((h.set_ hb aZ 0 x0).set_ (hb.set_ 0 _) aZ 1 x1).set_ ((hb.set_ 0 _).set_ 1 _) aZ 2 x2).set_ (((hb.set_ 0 _).set_ 1 _).set_ 2 _) aZ 3 x3).set_ ((((hb.set_ 0 _).set_ 1 _).set_ 2 _).set_ 3 _) aZ 4 x4).set_ (((((hb.set_ 0 _).set_ 1 _).set_ 2 _).set_ 3 _).set_ 4 _) aZ 5 x5
theorem dL.at_ {b:Nat} {w:World} {s:SP} {L:Cv} (h:dL b w s L) (h1:s.keep.length≤1048576) (h2:s.side.length≤1048576) (h3:s.up.length≤1048576):j9 w s L:=⟨h.keep.num,h.side.num,h.up.num,h1,h2,h3⟩
theorem Qt {w w1:World} {g:Nat} (h:aD w w1) (hg:w.heap.size≤g) (x0 x1 x2 x3 x4 x5:Value):aD w ((((((w1.setCell ⟨g,0,none⟩ x0).setCell ⟨g,1,none⟩ x1).setCell ⟨g,2,none⟩ x2).setCell ⟨g,3,none⟩ x3).setCell ⟨g,4,none⟩ x4).setCell ⟨g,5,none⟩ x5):=
 (((((h.setCell (p:=⟨g,0,none⟩) hg x0).setCell (p:=⟨g,1,none⟩) hg x1).setCell (p:=⟨g,2,none⟩) hg x2).setCell (p:=⟨g,3,none⟩) hg x3).setCell (p:=⟨g,4,none⟩) hg x4).setCell (p:=⟨g,5,none⟩) hg x5
def iM:Array Value:=#[.int .i64 0,.int .i64 0,.slice none 0 0,.slice none 0 0,.slice none 0 0,.int .i64 0]
set_option maxRecDepth 100000 in
set_option maxHeartbeats 4000000 in
theorem Zd {w:World} {s:SP} {L:Cv} (h:j9 w s L) :
 Calls Tryz.prog 32 #[.agg (bQ s L)] w fun e w'=>∃ L',e=.returned (.agg (bQ s L'))∧dL w.heap.size w' s L'∧aD w w':=by
 obtain ⟨g,hg⟩ : ∃ g,w.heap.size=g:=⟨_,rfl⟩
 obtain ⟨w0,Ce⟩ : ∃ w0,(w.alloc (.cells (bQ s L) 25)).alloc (.cells iM 68)=w0:=⟨_,rfl⟩
 have hb:=(aL.new w 25 (bQ s L)).ext (aD.alloc _ (.cells iM 68))
 have hz:=aL.new (w.alloc (.cells (bQ s L) 25)) 68 iM
 have he:=(aD.alloc w (.cells (bQ s L) 25)).alloc' (.cells iM 68)
 rw [World.size_alloc] at hz
 rw [Ce] at hb he hz
 rw [hg] at hb hz
 have HE:=aA he;have HZ:=aA hz;have lT:=aA (Nat.le_of_eq hg)
 have b0:w0.cell? ⟨g,0,none⟩=some (.int .i64 s.kind):=hb.cell 0
 have b1:w0.cell? ⟨g,1,none⟩=some (.int .i64 s.inn):=hb.cell 1
 have b2:w0.cell? ⟨g,2,none⟩=some (.slice L.kA s.keep.length L.kC):=hb.cell 2
 have b3:w0.cell? ⟨g,3,none⟩=some (.slice L.sA s.side.length L.sC):=hb.cell 3
 have b4:w0.cell? ⟨g,4,none⟩=some (.slice L.uA s.up.length L.uC):=hb.cell 4
 have b5:w0.cell? ⟨g,5,none⟩=some (.int .i64 s.most):=hb.cell 5
 have HS:=aA (h.ext he)
 clear h hb he hz
 unfold bQ at *
 unfold iM at *
 go_enter Tryz.func32,Tryz.ntmps32
 go_upto_region 1 with fail
 have b0:=aB b0;have b1:=aB b1;have b2:=aB b2;have b3:=aB b3;have b4:=aB b4;have b5:=aB b5
 refine aC 16 (by kernel_rfl) (by kernel_rfl) (by kernel_rfl) ?_
 iterate 6
  refine aK (by kernel_rfl) (by kernel_rfl) ?_
  apply Exists.intro
  refine ⟨fun w1 aT=>?_,fun K hK=>?_⟩
  ·go_simp;first | done | rfl
  go_simp;refine hK _ _ ?_;clear hK K
 refine cU [] (Ua w0.heap.size s.keep) (fun u w1 w2 _ h2 h=>h.ext h2) rfl (by kernel_rfl) (fun w2 uP=>?_) ?_
 ·have HC:=oW L.kC HS.out.keep HS.out.kl uP
  clear b0 b1 b2 b3 b4 b5
  simp only [cN]
  go_simp
  first | exact ⟨aD.refl _,HC⟩ | exact aD.refl _
 iterate 2
  refine aK (by kernel_rfl) (by kernel_rfl) ?_
  apply Exists.intro
  refine ⟨fun w1 aT=>?_,fun K hK=>?_⟩
  ·go_simp;first | done | rfl
  go_simp;refine hK _ _ ?_;clear hK K
 refine cU [] (Ua w0.heap.size s.side) (fun u w1 w2 _ h2 h=>h.ext h2) rfl (by kernel_rfl) (fun w2 uP=>?_) ?_
 ·have HC:=oW L.sC HS.out.side HS.out.sl uP
  clear b0 b1 b2 b3 b4 b5
  simp only [cN]
  go_simp
  first | exact ⟨aD.refl _,HC⟩ | exact aD.refl _
 iterate 2
  refine aK (by kernel_rfl) (by kernel_rfl) ?_
  apply Exists.intro
  refine ⟨fun w1 aT=>?_,fun K hK=>?_⟩
  ·go_simp;first | done | rfl
  go_simp;refine hK _ _ ?_;clear hK K
 refine cU [] (Ua w0.heap.size s.up) (fun u w1 w2 _ h2 h=>h.ext h2) rfl (by kernel_rfl) (fun w2 uP=>?_) ?_
 ·have HC:=oW L.uC HS.out.up HS.out.ul uP
  clear b0 b1 b2 b3 b4 b5
  simp only [cN]
  go_simp
  first | exact ⟨aD.refl _,HC⟩ | exact aD.refl _
 iterate 2
  refine aK (by kernel_rfl) (by kernel_rfl) ?_
  apply Exists.intro
  refine ⟨fun w1 aT=>?_,fun K hK=>?_⟩
  ·go_simp;first | done | rfl
  go_simp;refine hK _ _ ?_;clear hK K
 refine cU [9,12,15] (fun u w1=>∃ L',u=.agg (bQ s L')∧dL w0.heap.size w1 s L') (fun u w1 w2 _ h2 ⟨L',h3,h4⟩=>⟨L',h3,h4.ext h2⟩) rfl (by kernel_rfl) (fun w2 uP=>?_) ?_
 ·clear b0 b1 b2 b3 b4 b5
  simp only [cN]
  intro u1 zcd u2 hu2 u3 hu3
  obtain ⟨kA,kC,rfl,o1⟩:=zcd _ rfl
  obtain ⟨sA,sC,rfl,o2⟩:=hu2 _ rfl
  obtain ⟨uA,uC,rfl,o3⟩:=hu3 _ rfl
  clear zcd hu2 hu3
  have HO:=aA (show dL w0.heap.size w2 s ⟨kA,kC,sA,sC,uA,uC⟩ from ⟨o1,o2,o3⟩)
  clear o1 o2 o3
  go_simp
  exact ⟨aD.refl _,⟨kA,kC,sA,sC,uA,uC⟩,rfl,HO.out⟩
 refine aH ⟨rfl,by kernel_rfl,fun w3 hw3=>?_⟩
 simp only [bL,List.drop]
 rintro _ ⟨L',rfl,o1⟩ u1 - u2 - u3 -
 have X3:=aA hw3;have O1:=aA o1
 have B3:=aA (HZ.out.ext hw3)
 have f0:=B3.out.frozen 0;have f1:=B3.out.frozen 1;have f2:=B3.out.frozen 2;have f3:=B3.out.frozen 3;have f4:=B3.out.frozen 4;have f5:=B3.out.frozen 5
 have c0:_=some (Value.int .i64 0):=B3.out.cell 0;have c1:_=some (Value.int .i64 0):=B3.out.cell 1;have c2:_=some (Value.slice none 0 0):=B3.out.cell 2;have c3:_=some (Value.slice none 0 0):=B3.out.cell 3;have c4:_=some (Value.slice none 0 0):=B3.out.cell 4;have c5:_=some (Value.int .i64 0):=B3.out.cell 5
 clear hw3 o1 b0 b1 b2 b3 b4 b5 Ce hg
 unfold bQ
 go_wp2_with fail
 have R:=Fa B3.out (.int .i64 s.kind) (.int .i64 s.inn) (.slice L'.kA s.keep.length L'.kC) (.slice L'.sA s.side.length L'.sC) (.slice L'.uA s.up.length L'.uC) (.int .i64 s.most)
 have r0:=R.cell 0;have r1:=R.cell 1;have r2:=R.cell 2;have r3:=R.cell 3;have r4:=R.cell 4;have r5:=R.cell 5
 refine bodyPost_ret (v:=.agg #[.int .i64 s.kind,.int .i64 s.inn,.slice L'.kA s.keep.length L'.kC,.slice L'.sA s.side.length L'.sC,.slice L'.uA s.up.length L'.uC,.int .i64 s.most]) (by simp [results,Tryz.results32,go_sem,r0,r1,r2,r3,r4,r5]) rfl ?_
 have Mf:=lT.out
 refine ⟨L',rfl,?_,Qt (HE.out.trans X3.out) (by omega) _ _ _ _ _ _⟩
 have h1:=O1.out.six B3.out (by decide) (.int .i64 s.kind) (.int .i64 s.inn) (.slice L'.kA s.keep.length L'.kC) (.slice L'.sA s.side.length L'.sC) (.slice L'.uA s.up.length L'.uC) (.int .i64 s.most)
 have h2:=HE.out.size
 exact ⟨dI h1.keep h2,dI h1.side h2,dI h1.up h2⟩
set_option maxRecDepth 100000 in
set_option maxHeartbeats 4000000 in
theorem Ga {w:World} {s:SP} {L:Cv} (h:j9 w s L) :
 Calls Tryz.prog 29 #[.agg (bQ s L)] w fun e w'=>∃ L',e=.returned (.agg (bQ s L'))∧dL w.heap.size w' s L'∧aD w w':=by
 obtain ⟨g,hg⟩ : ∃ g,w.heap.size=g:=⟨_,rfl⟩
 obtain ⟨w0,Ce⟩ : ∃ w0,(w.alloc (.cells (bQ s L) 25)).alloc (.cells iM 25)=w0:=⟨_,rfl⟩
 have hb:=(aL.new w 25 (bQ s L)).ext (aD.alloc _ (.cells iM 25))
 have hz:=aL.new (w.alloc (.cells (bQ s L) 25)) 25 iM
 have he:=(aD.alloc w (.cells (bQ s L) 25)).alloc' (.cells iM 25)
 rw [World.size_alloc] at hz
 rw [Ce] at hb he hz
 rw [hg] at hb hz
 have HE:=aA he;have HZ:=aA hz;have lT:=aA (Nat.le_of_eq hg);have HB:=aA hb
 have b2:w0.cell? ⟨g,2,none⟩=some (.slice L.kA s.keep.length L.kC):=hb.cell 2
 have b3:w0.cell? ⟨g,3,none⟩=some (.slice L.sA s.side.length L.sC):=hb.cell 3
 have b4:w0.cell? ⟨g,4,none⟩=some (.slice L.uA s.up.length L.uC):=hb.cell 4
 have HS:=aA (h.ext he)
 clear h hb he hz
 unfold bQ at *
 unfold iM at *
 go_enter Tryz.func29,Tryz.ntmps29
 go_upto_region 1 with fail
 have b2:=aB b2;have b3:=aB b3;have b4:=aB b4
 refine aC 10 (by kernel_rfl) (by kernel_rfl) (by kernel_rfl) ?_
 iterate 2
  refine aK (by kernel_rfl) (by kernel_rfl) ?_
  apply Exists.intro
  refine ⟨fun w1 aT=>?_,fun K hK=>?_⟩
  ·go_simp;first | done | rfl
  go_simp;refine hK _ _ ?_;clear hK K
 refine cU [] (Ua w0.heap.size s.keep) (fun u w1 w2 _ h2 h=>h.ext h2) rfl (by kernel_rfl) (fun w2 uP=>?_) ?_
 ·have HC:=oW L.kC HS.out.keep HS.out.kl uP
  clear b2 b3 b4
  simp only [cN]
  go_simp
  first | exact ⟨aD.refl _,HC⟩ | exact aD.refl _
 iterate 2
  refine aK (by kernel_rfl) (by kernel_rfl) ?_
  apply Exists.intro
  refine ⟨fun w1 aT=>?_,fun K hK=>?_⟩
  ·go_simp;first | done | rfl
  go_simp;refine hK _ _ ?_;clear hK K
 refine cU [] (Ua w0.heap.size s.side) (fun u w1 w2 _ h2 h=>h.ext h2) rfl (by kernel_rfl) (fun w2 uP=>?_) ?_
 ·have HC:=oW L.sC HS.out.side HS.out.sl uP
  clear b2 b3 b4
  simp only [cN]
  go_simp
  first | exact ⟨aD.refl _,HC⟩ | exact aD.refl _
 iterate 2
  refine aK (by kernel_rfl) (by kernel_rfl) ?_
  apply Exists.intro
  refine ⟨fun w1 aT=>?_,fun K hK=>?_⟩
  ·go_simp;first | done | rfl
  go_simp;refine hK _ _ ?_;clear hK K
 refine cU [] (Ua w0.heap.size s.up) (fun u w1 w2 _ h2 h=>h.ext h2) rfl (by kernel_rfl) (fun w2 uP=>?_) ?_
 ·have HC:=oW L.uC HS.out.up HS.out.ul uP
  clear b2 b3 b4
  simp only [cN]
  go_simp
  first | exact ⟨aD.refl _,HC⟩ | exact aD.refl _
 iterate 1
  refine aK (by kernel_rfl) (by kernel_rfl) ?_
  apply Exists.intro
  refine ⟨fun w1 aT=>?_,fun K hK=>?_⟩
  ·go_simp;first | done | rfl
  go_simp;refine hK _ _ ?_;clear hK K
 refine aH ⟨rfl,by kernel_rfl,fun w3 hw3=>?_⟩
 simp only [bL,List.drop]
 rintro _ ⟨uA,uC,rfl,o3⟩ _ ⟨sA,sC,rfl,o2⟩ _ ⟨kA,kC,rfl,o1⟩
 clear b2 b3 b4 Ce hg
 have X3:=aA hw3
 have B3:=aA (HB.out.ext hw3)
 have Z3:=aA (HZ.out.ext hw3)
 have O3:=aA (show dL w0.heap.size w3 s ⟨kA,kC,sA,sC,uA,uC⟩ from ⟨o1,o2,o3⟩)
 have zk:=aA (B3.out.set_ 2 (.slice kA s.keep.length kC))
 have vh:=aA (zk.out.set_ 3 (.slice sA s.side.length sC))
 have zeY:=aA (vh.out.set_ 4 (.slice uA s.up.length uC))
 have O4:=aA (((O3.out.set_ B3.out (by decide) 2 (.slice kA s.keep.length kC)).set_ zk.out (by decide) 3 (.slice sA s.side.length sC)).set_ vh.out (by decide) 4 (.slice uA s.up.length uC))
 have E4:=aA ((((HE.out.trans hw3).setCell (p:=⟨g,2,none⟩) lT.out (.slice kA s.keep.length kC)).setCell (p:=⟨g,3,none⟩) lT.out (.slice sA s.side.length sC)).setCell (p:=⟨g,4,none⟩) lT.out (.slice uA s.up.length uC))
 have Z4:=aA (((Z3.out.far (p:=⟨g,2,none⟩) (by show g+1≠g;omega) (.slice kA s.keep.length kC)).far (p:=⟨g,3,none⟩) (by show g+1≠g;omega) (.slice sA s.side.length sC)).far (p:=⟨g,4,none⟩) (by show g+1≠g;omega) (.slice uA s.up.length uC))
 have c2:=B3.out.cell 2;have c3:=B3.out.cell 3;have c4:=B3.out.cell 4
 have f2:=B3.out.frozen 2;have f3:=B3.out.frozen 3;have f4:=B3.out.frozen 4
 clear hw3 o1 o2 o3
 go_upto_region 2 with fail
 clear c2 c3 c4 f2 f3 f4 zk vh B3
 generalize ((w3.setCell ⟨g,2,none⟩ (.slice kA s.keep.length kC)).setCell ⟨g,3,none⟩ (.slice sA s.side.length sC)).setCell ⟨g,4,none⟩ (.slice uA s.up.length uC)=w4 at *
 have B4:=aA (show aL w4 g 25 #[.int .i64 s.kind,.int .i64 s.inn,.slice kA s.keep.length kC,.slice sA s.side.length sC,.slice uA s.up.length uC,.int .i64 s.most] from zeY.out)
 have d0:w4.cell? ⟨g,0,none⟩=some (.int .i64 s.kind):=B4.out.cell 0
 have d1:w4.cell? ⟨g,1,none⟩=some (.int .i64 s.inn):=B4.out.cell 1
 have d2:w4.cell? ⟨g,2,none⟩=some (.slice kA s.keep.length kC):=B4.out.cell 2
 have d3:w4.cell? ⟨g,3,none⟩=some (.slice sA s.side.length sC):=B4.out.cell 3
 have d4:w4.cell? ⟨g,4,none⟩=some (.slice uA s.up.length uC):=B4.out.cell 4
 have d5:w4.cell? ⟨g,5,none⟩=some (.int .i64 s.most):=B4.out.cell 5
 have f0:=Z4.out.frozen 0;have f1:=Z4.out.frozen 1;have f2:=Z4.out.frozen 2;have f3:=Z4.out.frozen 3;have f4:=Z4.out.frozen 4;have f5:=Z4.out.frozen 5
 have c0:_=some (Value.int .i64 0):=Z4.out.cell 0;have c1:_=some (Value.int .i64 0):=Z4.out.cell 1;have c2:_=some (Value.slice none 0 0):=Z4.out.cell 2;have c3:_=some (Value.slice none 0 0):=Z4.out.cell 3;have c4:_=some (Value.slice none 0 0):=Z4.out.cell 4;have c5:_=some (Value.int .i64 0):=Z4.out.cell 5
 go_wp2_with fail
 have R:=Fa Z4.out (.int .i64 s.kind) (.int .i64 s.inn) (.slice kA s.keep.length kC) (.slice sA s.side.length sC) (.slice uA s.up.length uC) (.int .i64 s.most)
 have r0:=R.cell 0;have r1:=R.cell 1;have r2:=R.cell 2;have r3:=R.cell 3;have r4:=R.cell 4;have r5:=R.cell 5
 refine bodyPost_ret (v:=.agg #[.int .i64 s.kind,.int .i64 s.inn,.slice kA s.keep.length kC,.slice sA s.side.length sC,.slice uA s.up.length uC,.int .i64 s.most]) (by simp [results,Tryz.results29,go_sem,r0,r1,r2,r3,r4,r5]) rfl ?_
 have Mf:=lT.out
 refine ⟨⟨kA,kC,sA,sC,uA,uC⟩,rfl,?_,Qt E4.out (by omega) _ _ _ _ _ _⟩
 have h1:=O4.out.six Z4.out (by decide) (.int .i64 s.kind) (.int .i64 s.inn) (.slice kA s.keep.length kC) (.slice sA s.side.length sC) (.slice uA s.up.length uC) (.int .i64 s.most)
 have h2:=HE.out.size
 exact ⟨dI h1.keep h2,dI h1.side h2,dI h1.up h2⟩
def Hg (b:Nat) (w:World) (A:Option Addr) (n c:Nat):Prop:=∃ xs,w.ownsRow b 3 1 (.slice A n c) n xs
theorem kD.mess {b:Nat} {w:World} {A:Option Addr} {c:Nat} {xs:List Int} (h:kD b w A c xs):Hg b w A xs.length c:=⟨_,h⟩
theorem Hg.any {b n c:Nat} {w:World} {A:Option Addr} (h:Hg b w A n c) (p j:Nat) (u:Value):Hg b (w.setCell ⟨p,j,none⟩ u) A n c:=by
 obtain ⟨xs,h0,h⟩:=h
 rcases h with h1 | ⟨g,cap,cur,h1,h2,h3,h4,h5,h6,h7⟩
 ·exact ⟨xs,h0,.inl h1⟩
 ·have hb:aL w g 3 cur:=h3
  by_cases hg:g=p
  ·subst hg
   refine ⟨(cur.setIfInBounds j u).toList.take (n*1),?_,.inr ⟨g,cap,_,h1,h2,hb.set_ j u,h4,h5,by rw [Array.size_setIfInBounds];exact h6,rfl⟩⟩
   rw [List.length_take,Array.length_toList,Array.size_setIfInBounds,h6];omega
  ·exact ⟨xs,h0,.inr ⟨g,cap,cur,h1,h2,hb.far (p:=⟨p,j,none⟩) hg u,h4,h5,h6,h7⟩⟩
theorem Hg.at_ {b n c:Nat} {w:World} {A:Option Addr} (h:Hg b w A n c) {j:Nat} (hj:j<n):∃ g cs v,A=some ⟨g,0,none⟩∧b≤g∧aL w g 3 cs∧w.cell? ⟨g,j,none⟩=some v:=by
 obtain ⟨xs,h0,h⟩:=h
 rcases h with ⟨-,h1⟩ | ⟨g,cap,cur,k1,k2,k3,k4,k5,k6,k7⟩
 ·omega
 ·injection k1 with k1
  subst k1
  have hb:aL w g 3 cur:=k3
  exact ⟨g,cur,cur[j]'(by omega),rfl,k2,hb,by rw [hb.cell j];exact Array.getElem?_eq_getElem (by omega)⟩
structure zbI (b M:Nat) (w3:World) (g5:Nat) (s:SP) (L:Cv) (w':World):Prop where
 blk:aL w' g5 25 (bQ s L)
 keep:Hg b w' L.kA s.keep.length L.kC
 side:Hg b w' L.sA s.side.length L.sC
 up:Hg b w' L.uA s.up.length L.uC
 chg:aF (fun x=>b≤x∧x<M) w3 w'
theorem zbu {w:World} {g k:Nat} {s t:TypeId} {cs ds:Array Value} (h:aL w g s cs) (h2:aL w k t ds) (aZ:s≠t):g≠k:=fun e=>by
 subst e
 unfold aL at h h2
 rw [h] at h2
 injection h2 with h2
 injection h2 with _ h2 _
 exact aZ h2
theorem zbI.put {b M:Nat} {w3 w':World} {g5:Nat} {s:SP} {L:Cv} (h:zbI b M w3 g5 s L w') {g j:Nat} {cs:Array Value} (hb:aL w' g 3 cs) (h1:b≤g) (h2:g<M) (u:Value):zbI b M w3 g5 s L (w'.setCell ⟨g,j,none⟩ u):=
 ⟨h.blk.far (p:=⟨g,j,none⟩) (zbu h.blk hb (by decide)) u,h.keep.any g j u,h.side.any g j u,h.up.any g j u,aF.setCell h.chg (p:=⟨g,j,none⟩) (.inl ⟨h1,h2⟩) u⟩
def We (s:SP) (L:Cv):Array Value:=#[.int .i64 s.kind,.int .i64 s.inn,.slice L.kA s.keep.length L.kC,.slice L.sA s.side.length L.sC,.slice L.uA s.up.length L.uC,.int .i64 s.most,.slice none 0 0,.slice none 0 0,.slice none 0 0,.slice none 0 0,.bool false,.slice none 0 0,.slice none 0 0,.slice none 0 0,.slice none 0 0]
def Ib (b:Nat) (w:World) (d:Nat) (s:SP):Prop:=∃ L,aL w d 70 (We s L)∧dL b w s L∧b≤d∧∀ x,(L.kA=some x∨L.sA=some x∨L.uA=some x)→b≤x.block∧x.block<d
def Ws (s:SP) (w w':World) (e:Ending):Prop:=
 aD w w'∧((s.good=false∧e=.returned (.tuple #[.pointer none,.pointer none,.bool true]))∨
  (s.good=true∧∃ n d B b,e=.returned (.tuple #[.pointer (some ⟨n,0,none⟩),.pointer (some ⟨d,0,none⟩),.bool true])∧Vh w' B n (dN s) fH 262144∧(∀ x,B x→w.heap.size≤x∧x<b)∧w.heap.size≤b∧Ib b w' d s))
set_option maxRecDepth 100000 in
set_option maxHeartbeats 4000000 in
theorem Yw {w:World} {s:SP} {L:Cv} (h:j9 w s L) :
 Calls Tryz.prog 9 #[.agg (bQ s L)] w fun e w'=>Ws s w w' e:=by
 obtain ⟨g,hg⟩ : ∃ g,w.heap.size=g:=⟨_,rfl⟩
 obtain ⟨w0,Ce⟩ : ∃ w0,w.alloc (.cells (bQ s L) 25)=w0:=⟨_,rfl⟩
 have hb:=aL.new w 25 (bQ s L)
 have he:=aD.alloc w (.cells (bQ s L) 25)
 rw [Ce] at hb he
 rw [hg] at hb
 have HE:=aA he;have HB:=aA hb;have lT:=aA (Nat.le_of_eq hg)
 have hs:=h.ext he
 have HS:=aA hs
 have yR:=aA (Ga hs)
 have b0:w0.cell? ⟨g,0,none⟩=some (.int .i64 s.kind):=hb.cell 0
 have b1:w0.cell? ⟨g,1,none⟩=some (.int .i64 s.inn):=hb.cell 1
 have b2:w0.cell? ⟨g,2,none⟩=some (.slice L.kA s.keep.length L.kC):=hb.cell 2
 have b3:w0.cell? ⟨g,3,none⟩=some (.slice L.sA s.side.length L.sC):=hb.cell 3
 have b4:w0.cell? ⟨g,4,none⟩=some (.slice L.uA s.up.length L.uC):=hb.cell 4
 have b5:w0.cell? ⟨g,5,none⟩=some (.int .i64 s.most):=hb.cell 5
 clear h hb he hs
 unfold bQ at *
 go_enter Tryz.func9,Tryz.ntmps9
 go_upto_region 1 with fail
 go_upto_region 2 with ((with_reducible refine yR.out.mono ?_);rintro e w1 ⟨L1,rfl,o1,x1⟩;have O1:=aA o1;have X1:=aA x1;clear o1 x1)
 obtain ⟨g5,zch⟩ : ∃ g5,w1.heap.size=g5:=⟨_,rfl⟩
 rw [zch]
 have Il:=aL.new w1 25 (bQ s L1)
 have zcu:=aD.alloc w1 (.cells (bQ s L1) 25)
 have Uu:=(O1.out.at_ HS.out.kl HS.out.sl HS.out.ul).ext zcu
 have zcl:=O1.out.ext zcu
 rw [zch] at Il
 unfold bQ at Il zcu Uu zcl
 generalize w1.alloc (.cells #[.int .i64 s.kind,.int .i64 s.inn,.slice L1.kA s.keep.length L1.kC,.slice L1.sA s.side.length L1.sC,.slice L1.uA s.up.length L1.uC,.int .i64 s.most] 25)=w5 at *
 have xp:=aA (Qe Uu)
 have zes:=aA (show ∀ x,(L1.kA=some x∨L1.sA=some x∨L1.uA=some x)→w0.heap.size≤x.block∧x.block<w5.heap.size from fun x hx=>by
  rcases hx with hx | hx | hx
  ·have:=zcl.keep.lt x hx;omega
  ·have:=zcl.side.lt x hx;omega
  ·have:=zcl.up.lt x hx;omega)
 have zeN:=aA (show w.heap.size≤w5.heap.size from by have:=HE.out.size;have:=X1.out.size;have:=zcu.size;omega)
 have zjm:=aA (X1.out.trans zcu)
 have I_:=aA zcl;have Mb:=aA Il
 have d0:w5.cell? ⟨g5,0,none⟩=some (.int .i64 s.kind):=Il.cell 0
 have d1:w5.cell? ⟨g5,1,none⟩=some (.int .i64 s.inn):=Il.cell 1
 have d2:w5.cell? ⟨g5,2,none⟩=some (.slice L1.kA s.keep.length L1.kC):=Il.cell 2
 have d3:w5.cell? ⟨g5,3,none⟩=some (.slice L1.sA s.side.length L1.sC):=Il.cell 3
 have d4:w5.cell? ⟨g5,4,none⟩=some (.slice L1.uA s.up.length L1.uC):=Il.cell 4
 have d5:w5.cell? ⟨g5,5,none⟩=some (.int .i64 s.most):=Il.cell 5
 clear Uu zcl Il zcu zch yR lT O1 X1 b0 b1 b2 b3 b4 b5
 unfold bQ at xp
 have zh:=aA (xp.out.mono (R':=fun e w'=>aD w5 w'∧∃ p q,e=.returned (.tuple #[.pointer p,.int .i64 q])∧((s.good=false∧p=none∧q=190)∨(s.good=true∧q=0∧∃ n B,p=some ⟨n,0,none⟩∧Vh w' B n (dN s) fH 262144∧(∀ b,B b→w5.heap.size≤b)∧∀ b,B b→b<w'.heap.size))) fun e w' hh=>⟨hh.1,hh.2.elim (fun ⟨h1,h2⟩=>⟨none,190,h2,.inl ⟨h1,rfl,rfl⟩⟩) fun ⟨h1,n,B,h2,h3⟩=>⟨_,_,h2,.inr ⟨h1,rfl,n,B,rfl,h3⟩⟩⟩)
 clear xp
 go_upto_region 3 with ((with_reducible refine zh.out.mono ?_);rintro e w6 ⟨x6,p,q,rfl,hn⟩;have X6:=aA x6;have zdv:=aA hn;clear x6 hn)
 clear d0 d1 d2 d3 d4 d5 zh
 have zdz:=aA (show zbI w0.heap.size w5.heap.size w6 g5 s L1 w6 from by
  have hx:=X6.out
  have hk:=I_.out.keep.ext hx;have hd:=I_.out.side.ext hx;have hu:=I_.out.up.ext hx
  exact ⟨Mb.out.ext hx,hk.mess,hd.mess,hu.mess,aF.refl _ _⟩)
 have zb0:=aA (show s.keep.length≤1048576∧s.side.length≤1048576∧s.up.length≤1048576 from ⟨HS.out.kl,HS.out.sl,HS.out.ul⟩)
 have d2:w6.cell? ⟨g5,2,none⟩=some (.slice L1.kA s.keep.length L1.kC):=zdz.out.blk.cell 2
 clear I_ Mb
 go_wp2_with fail
 have pZ:=zb0.out.1
 go_loopw [8,21] (fun _ s21 w'=>∃ i:Nat,i≤s.keep.length∧s21=.int .i64 i∧Hid (zbI w0.heap.size w5.heap.size w6 g5 s L1 w')) (fun _ s21 _=>s.keep.length - (intOf s21).toNat)
 case atStart=>exact ⟨0,by omega,rfl,zdz⟩
 case round=>
  clear d2
  obtain ⟨i,bE,rfl,hM⟩:=hrel
  by_cases hi:i<s.keep.length
  ·have zbT:(i:Int)<(s.keep.length:Int):=by omega
   have e2:wr.cell? ⟨g5,2,none⟩=some (.slice L1.kA s.keep.length L1.kC):=hM.out.blk.cell 2
   obtain ⟨gk,cs,v,hA,h1,hb,hv⟩:=hM.out.keep.at_ hi
   rw [hA] at e2
   have hf:=hb.frozen i
   have O_:=aA (hM.out.put (j:=i) hb h1 (zes.out _ (.inl hA)).2 (.int .i64 (-5)))
   clear hb h1 hA
   go_wp2_with fail
   go_roundw
   case rel=>exact ⟨i+1,by omega,by go_num,O_⟩
   case measure=>simp [intOf];omega
  ·obtain rfl:i=s.keep.length:=by omega
   have e3:wr.cell? ⟨g5,3,none⟩=some (.slice L1.sA s.side.length L1.sC):=hM.out.blk.cell 3
   have F9:=zb0.out.2.1
   go_wp2_with fail
   clear e3 zdz
   go_loopw [9,32] (fun _ s32 w'=>∃ i:Nat,i≤s.side.length∧s32=.int .i64 i∧Hid (zbI w0.heap.size w5.heap.size w6 g5 s L1 w')) (fun _ s32 _=>s.side.length - (intOf s32).toNat)
   case atStart=>exact ⟨0,by omega,rfl,hM⟩
   case round=>
    clear hM
    obtain ⟨i,bE,rfl,hM⟩:=hrel
    by_cases hi:i<s.side.length
    ·have zbT:(i:Int)<(s.side.length:Int):=by omega
     have e2:wr.cell? ⟨g5,3,none⟩=some (.slice L1.sA s.side.length L1.sC):=hM.out.blk.cell 3
     obtain ⟨gk,cs,v,hA,h1,hb,hv⟩:=hM.out.side.at_ hi
     rw [hA] at e2
     have hf:=hb.frozen i
     have O_:=aA (hM.out.put (j:=i) hb h1 (zes.out _ (.inr (.inl hA))).2 (.int .i64 (-5)))
     clear hb h1 hA
     go_wp2_with fail
     go_roundw
     case rel=>exact ⟨i+1,by omega,by go_num,O_⟩
     case measure=>simp [intOf];omega
    ·obtain rfl:i=s.side.length:=by omega
     have e3:wr.cell? ⟨g5,4,none⟩=some (.slice L1.uA s.up.length L1.uC):=hM.out.blk.cell 4
     have zeC:=zb0.out.2.2
     go_wp2_with fail
     clear e3
     go_loopw [10,43] (fun _ s43 w'=>∃ i:Nat,i≤s.up.length∧s43=.int .i64 i∧Hid (zbI w0.heap.size w5.heap.size w6 g5 s L1 w')) (fun _ s43 _=>s.up.length - (intOf s43).toNat)
     case atStart=>exact ⟨0,by omega,rfl,hM⟩
     case round=>
      clear hM
      obtain ⟨i,bE,rfl,hM⟩:=hrel
      by_cases hi:i<s.up.length
      ·have zbT:(i:Int)<(s.up.length:Int):=by omega
       have e2:wr.cell? ⟨g5,4,none⟩=some (.slice L1.uA s.up.length L1.uC):=hM.out.blk.cell 4
       obtain ⟨gk,cs,v,hA,h1,hb,hv⟩:=hM.out.up.at_ hi
       rw [hA] at e2
       have hf:=hb.frozen i
       have O_:=aA (hM.out.put (j:=i) hb h1 (zes.out _ (.inr (.inr hA))).2 (.int .i64 (-5)))
       clear hb h1 hA
       go_wp2_with fail
       go_roundw
       case rel=>exact ⟨i+1,by omega,by go_num,O_⟩
       case measure=>simp [intOf];omega
      ·obtain rfl:i=s.up.length:=by omega
       have ziC:=zjm.out.trans X6.out
       have XR:=aA (hM.out.chg.ext ziC fun x hx=>hx.1)
       have zbv:=HB.out.ext XR.out
       have b0:wr.cell? ⟨g,0,none⟩=some (.int .i64 s.kind):=zbv.cell 0
       have b1:wr.cell? ⟨g,1,none⟩=some (.int .i64 s.inn):=zbv.cell 1
       have b2:wr.cell? ⟨g,2,none⟩=some (.slice L.kA s.keep.length L.kC):=zbv.cell 2
       have b3:wr.cell? ⟨g,3,none⟩=some (.slice L.sA s.side.length L.sC):=zbv.cell 3
       have b4:wr.cell? ⟨g,4,none⟩=some (.slice L.uA s.up.length L.uC):=zbv.cell 4
       have b5:wr.cell? ⟨g,5,none⟩=some (.int .i64 s.most):=zbv.cell 5
       have zgM:=aA (Zd (HS.out.ext XR.out))
       unfold bQ at zgM
       clear ziC zbv
       have Pj:=aA (fun (w':World) (L':Cv) (h:j9 w' s L')=>Wo h)
       unfold bQ at Pj
       go_upto_if 54 with (first | ((with_reducible refine zgM.out.mono ?_);rintro e w8 ⟨L8,rfl,o8,x8⟩;have X8:=aA x8;have O8:=aA (o8.at_ zb0.out.1 zb0.out.2.1 zb0.out.2.2);clear o8 x8) | ((with_reducible refine (Pj.out _ _ O8.out).mono ?_);rintro e w9 ⟨rfl,x9⟩;have X9:=aA x9;clear x9))
       have HU:=aA (show ∀ b,w5.heap.size≤b→¬ (w0.heap.size≤b∧b<w5.heap.size) from fun b hb hn=>by omega)
       rcases zdv.out with ⟨hz,rfl,rfl⟩ | ⟨hz,rfl,n,B,rfl,hi,oY,vS⟩
       ·have HZ:=aA hz
        rw [hz] at Pj ⊢
        clear hz b0 b1 b2 b3 b4 b5
        go_wp2_with fail
        go_ret3
        exact ⟨HE.out.trans (XR.out.trans (X8.out.trans X9.out)),.inl ⟨HZ.out,rfl⟩⟩
       ·have xy:=X8.out.trans X9.out
        have b0:=xy.cell b0;have b1:=xy.cell b1;have b2:=xy.cell b2;have b3:=xy.cell b3;have b4:=xy.cell b4;have b5:=xy.cell b5
        have zdR:=aA (Zd (HS.out.ext (XR.out.trans xy)))
        unfold bQ at zdR
        have HZ:=aA hz
        have zgK:=aA ((hi.chg hM.out.chg fun b hb=>HU.out b (oY b hb)).ext xy)
        have zcg:=aA (show ∀ x,B x→w.heap.size≤x∧x<w9.heap.size from fun x hx=>⟨Nat.le_trans zeN.out (oY x hx),Nat.lt_of_lt_of_le (vS x hx) (Nat.le_trans hM.out.chg.size xy.size)⟩)
        rw [hz] at Pj ⊢
        clear hz hi oY vS xy zgM
        go_upto_block 6 with ((with_reducible refine zdR.out.mono ?_);rintro e w10 ⟨zhi,rfl,o10,x10⟩;have zgN:=aA x10;have zfb:=aA o10;clear o10 x10)
        go_ret3
        have hd:=aL.new w10 70 (We s zhi)
        have he:=aD.alloc w10 (.cells (We s zhi) 70)
        have h9:=X8.out.size;have h8:=X9.out.size;have h7:=XR.out.size;have h6:=HE.out.size;have h5:=zgN.out.size
        refine ⟨(HE.out.trans (XR.out.trans (X8.out.trans (X9.out.trans zgN.out)))).trans he,.inr ⟨HZ.out,n,w10.heap.size,B,w9.heap.size,rfl,(zgK.out.ext zgN.out).ext he,zcg.out,by omega,zhi,hd,zfb.out.ext he,h5,fun x hx=>?_⟩⟩
        rcases hx with hx | hx | hx
        ·exact zfb.out.keep.lt x hx
        ·exact zfb.out.side.lt x hx
        ·exact zfb.out.up.lt x hx
end Go.Proofs.YtahdiiaadjdmcaaGreat
