import Derived.Test.YtahdiiaadjdmcaaGreatNgH
import Derived.Deep.CutBlock
namespace Go.Proofs.YtahdiiaadjdmcaaGreat
open Go.RowKit
structure SP where
 kind:Int
 inn:Int
 keep:List Int
 side:List Int
 up:List Int
 most:Int
structure Cv where
 kA:Option Addr
 kC:Nat
 sA:Option Addr
 sC:Nat
 uA:Option Addr
 uC:Nat
def bQ (s:SP) (L:Cv):Array Value:=#[.int .i64 s.kind,.int .i64 s.inn,.slice L.kA s.keep.length L.kC,.slice L.sA s.side.length L.sC,.slice L.uA s.up.length L.uC,.int .i64 s.most]
structure j9 (w:World) (s:SP) (L:Cv):Prop where
 keep:cB w L.kA s.keep.length s.keep
 side:cB w L.sA s.side.length s.side
 up:cB w L.uA s.up.length s.up
 kl:s.keep.length≤1048576
 sl:s.side.length≤1048576
 ul:s.up.length≤1048576
theorem j9.ext {w w':World} {s:SP} {L:Cv} (h:j9 w s L) (hw:aD w w'):j9 w' s L:=⟨h.keep.ext hw,h.side.ext hw,h.up.ext hw,h.kl,h.sl,h.ul⟩
def SP.width (s:SP):Int:=if s.kind=2 then s.keep.length else s.inn
def SP.keepOk (s:SP):Bool:=if s.kind=2 then bA s.inn (-1) s.keep && decide ((s.keep.length:Int)<s.inn) else decide (s.keep.length=0)
def SP.sideOk (s:SP):Bool:=if s.kind=3 then bA s.inn (-1) s.side else decide (s.side.length=0)
def SP.restOk (s:SP):Bool:=decide (0≤s.inn) && decide (s.inn≤30) && decide (1≤s.most) && decide (s.most≤65536) && bA s.width (-1) s.up
def SP.good (s:SP):Bool:=decide (s.kind=1∨s.kind=2∨s.kind=3) && s.keepOk && s.sideOk && s.restOk
set_option maxRecDepth 100000 in
set_option maxHeartbeats 1000000 in
theorem tG {w:World} {A:Option Addr} {n:Nat} (c:Nat) {xs:List Int} (h:cB w A n xs) (hn:n≤1048576) (width:Int) :
 Calls Tryz.prog 79 #[.slice A n c,.int .i64 width] w fun e w'=>e=.returned (.bool (bA width (-1) xs))∧aD w w':=by
 have HN:=aA h
 have HL:=aA h.1
 obtain ⟨z,hz⟩ : ∃ z,bA width (-1) xs=z:=⟨_,rfl⟩
 rw [hz]
 have HZ:=aA hz
 clear h hz
 go_enter Tryz.func79,Tryz.ntmps79
 go_wp2_with fail
 go_loopw [5,10] (fun s5 s10 w'=>∃ (i:Nat) (last:Int),i≤n∧s10=.int .i64 i∧s5=.int .i64 last∧Hid (z=bA width last (xs.drop i))∧w=w') (fun _ s10 _=>n - (intOf s10).toNat)
 case atStart=>exact ⟨0,-1,by omega,rfl,rfl,HZ.out.symm,rfl⟩
 case round=>
  obtain ⟨i,last,hi,rfl,rfl,hq,rfl⟩:=hrel
  by_cases j0:i<n
  ·obtain ⟨b,off,x,rfl,hx,-,cV⟩:=HN.out.get j0
   have zhp:(i:Int)<(n:Int):=by omega
   have Mz:i<xs.length:=by have:=HL.out;omega
   have fI:=aA (show z=(decide (last<x) && (decide (x<width) && bA width x (xs.drop (i+1)))) by
    rw [hq.out,List.drop_eq_getElem_cons Mz]
    rw [List.getElem?_eq_getElem Mz] at hx
    rw [Option.some.inj hx];rfl)
   clear hx Mz
   by_cases zgU:x≤last
   ·go_wp2_with fail
    go_ret
    refine ⟨?_,aD.refl _⟩
    rw [fI.out,decide_eq_false (by omega)];rfl
   ·by_cases mG:width≤x
    ·go_wp2_with fail
     go_ret
     refine ⟨?_,aD.refl _⟩
     rw [fI.out,decide_eq_false (p:=x<width) (by omega),Bool.false_and,Bool.and_false];rfl
    ·go_wp2_with fail
     go_roundw
     case rel=>exact ⟨i+1,x,by omega,by go_num,rfl,aA (by rw [fI.out,decide_eq_true (p:=last<x) (by omega),decide_eq_true (p:=x<width) (by omega)];rfl),trivial⟩
     case measure=>simp [intOf];omega
  ·obtain rfl:i=n:=by omega
   have he:z=true:=by rw [hq.out,List.drop_eq_nil_of_le (by have:=HL.out;omega)];rfl
   clear hq HZ HL
   subst he
   go_wp2_with fail
   go_ret
   exact ⟨rfl,aD.refl _⟩
set_option maxRecDepth 100000 in
theorem Ee (w:World) (s:SP) (L:Cv) :
 Calls Tryz.prog 63 #[.agg (bQ s L)] w fun e w'=>e=.returned (.int .i64 s.width)∧aD w w':=by
 have HB:=aA (aL.new w 25 (bQ s L))
 have b0:=HB.out.cell 0;have b1:=HB.out.cell 1;have b2:=HB.out.cell 2
 unfold SP.width
 unfold bQ at *
 by_cases hk:s.kind=2
 ·rw [if_pos hk]
  go_enter Tryz.func63,Tryz.ntmps63
  go_wp2_with fail
  go_ret
  exact ⟨rfl,aD.alloc _ _⟩
 ·rw [if_neg hk]
  go_enter Tryz.func63,Tryz.ntmps63
  go_wp2_with fail
  go_ret
  exact ⟨rfl,aD.alloc _ _⟩
theorem Ku (n:Nat):decide (n=0)=((n:Int) == 0):=by
 cases n with
 | zero=>rfl
 | succ n=>simp;omega
theorem Vz {s:SP} (h:s.kind=2):s.keepOk=(bA s.inn (-1) s.keep && decide ((s.keep.length:Int)<s.inn)):=by unfold SP.keepOk;rw [if_pos h]
theorem Hy {s:SP} (h:¬ s.kind=2):s.keepOk=((s.keep.length:Int) == 0):=by unfold SP.keepOk;rw [if_neg h,Ku]
theorem Yk {s:SP} (h:s.kind=3):s.sideOk=bA s.inn (-1) s.side:=by unfold SP.sideOk;rw [if_pos h]
theorem Fv {s:SP} (h:¬ s.kind=3):s.sideOk=((s.side.length:Int) == 0):=by unfold SP.sideOk;rw [if_neg h,Ku]
theorem F5 {s:SP} (h:s.kind=1∨s.kind=2∨s.kind=3):s.good=(s.keepOk && (s.sideOk && s.restOk)):=by
 unfold SP.good;rw [decide_eq_true h,Bool.true_and,Bool.and_assoc]
theorem zaL {s:SP} (h:¬ 0≤s.inn):s.restOk=false:=by unfold SP.restOk;rw [decide_eq_false h];rfl
theorem Z_ {s:SP} (h:¬ s.inn≤30):s.restOk=false:=by unfold SP.restOk;rw [decide_eq_false h,Bool.and_false];rfl
theorem zaN {s:SP} (h:¬ 1≤s.most):s.restOk=false:=by unfold SP.restOk;rw [decide_eq_false h,Bool.and_false];rfl
theorem zay {s:SP} (h:¬ s.most≤65536):s.restOk=false:=by unfold SP.restOk;rw [decide_eq_false h,Bool.and_false];rfl
theorem L2 {s:SP} (h1:0≤s.inn) (h2:s.inn≤30) (h3:1≤s.most) (h4:s.most≤65536):s.restOk=bA s.width (-1) s.up:=by
 unfold SP.restOk;rw [decide_eq_true h1,decide_eq_true h2,decide_eq_true h3,decide_eq_true h4];rfl
set_option maxRecDepth 100000 in
set_option maxHeartbeats 4000000 in
theorem Xg {w:World} {s:SP} {L:Cv} (h:j9 w s L) :
 Calls Tryz.prog 60 #[.agg (bQ s L)] w fun e w'=>e=.returned (.bool s.good)∧aD w w':=by
 obtain ⟨g,hg⟩ : ∃ g,w.heap.size=g:=⟨_,rfl⟩
 obtain ⟨w0,Ce⟩ : ∃ w0,w.alloc (.cells (bQ s L) 25)=w0:=⟨_,rfl⟩
 have hb:=aL.new w 25 (bQ s L)
 have he:=aD.alloc w (.cells (bQ s L) 25)
 rw [Ce] at hb he
 rw [hg] at hb
 have HE:=aA he
 have b0:w0.cell? ⟨g,0,none⟩=some (.int .i64 s.kind):=hb.cell 0
 have b1:w0.cell? ⟨g,1,none⟩=some (.int .i64 s.inn):=hb.cell 1
 have b2:w0.cell? ⟨g,2,none⟩=some (.slice L.kA s.keep.length L.kC):=hb.cell 2
 have b3:w0.cell? ⟨g,3,none⟩=some (.slice L.sA s.side.length L.sC):=hb.cell 3
 have b4:w0.cell? ⟨g,4,none⟩=some (.slice L.uA s.up.length L.uC):=hb.cell 4
 have b5:w0.cell? ⟨g,5,none⟩=some (.int .i64 s.most):=hb.cell 5
 have HB:=aA hb
 have HR:=aA (fun (w1:World) (h1:aD w0 w1)=>tG L.kC (h.ext (he.trans h1)).keep h.kl s.inn)
 have HS:=aA (fun (w1:World) (h1:aD w0 w1)=>tG L.sC (h.ext (he.trans h1)).side h.sl s.inn)
 have HU:=aA (fun (w1:World) (h1:aD w0 w1)=>tG L.uC (h.ext (he.trans h1)).up h.ul s.width)
 have HW:=aA (fun (w1:World)=>Ee w1 s L)
 clear h hb he
 unfold bQ at *
 go_enter Tryz.func60,Tryz.ntmps60
 go_upto_region 1 with fail
 clear Ce hg
 refine mK [true,true,true,true,true,true,true,true,false,false] (fun w'=>w'.cell? ⟨g,2,none⟩=some (.slice L.kA s.keep.length L.kC)∧w'.cell? ⟨g,3,none⟩=some (.slice L.sA s.side.length L.sC)) (by kernel_rfl) (by kernel_rfl) (fun _ _ _ _ _ h=>h) ?_ ?_
 ·exact fun w' hw'=>⟨hw'.cell b2,hw'.cell b3⟩
 intro wq hwq
 iterate 8
  unfold Iv
  apply Exists.intro
  refine ⟨fun w9 h9=>?_,fun K hK=>?_⟩
  ·go_simp;first | done | rfl
  go_simp;refine hK _ ?_;clear hK K
 unfold Iv
 go_wp2_with fail
 simp only [kB]
 refine ⟨⟨hwq.cell b2,hwq.cell b3⟩,?_⟩
 unfold Iv
 go_wp2_with fail
 simp only [kB]
 refine ⟨⟨hwq.cell b2,hwq.cell b3⟩,?_⟩
 unfold Iv
 have b0:=hwq.cell b0;have b1:=hwq.cell b1;have b2:=hwq.cell b2;have b3:=hwq.cell b3;have b4:=hwq.cell b4;have b5:=hwq.cell b5
 have HR:=aA (HR.out wq hwq);have HS:=aA (HS.out wq hwq)
 have wu:=aA (fun (w1:World) (h1:aD wq w1)=>HU.out w1 (hwq.trans h1))
 have Sm:=aA (HE.out.trans hwq)
 have Vi:=aA (HB.out.ext hwq)
 clear HU HE hwq HB
 go_upto_block 0 with fail
 go_cut [3,4] from 13 to 39 (fun s3 s4 wx=>s3=.bool s.keepOk∧s4=.bool s.sideOk∧Hid (aD wq wx)∧Hid (s.kind=1∨s.kind=2∨s.kind=3))
 case first=>
  by_cases k2:s.kind=2
  ·have KO:=aA (Vz k2);have SO:=aA (Fv (s:=s) (by omega));have K2:=aA k2
   have q2:(s.kind == 2)=true:=by simp [k2]
   clear k2
   generalize bA s.inn (-1) s.keep=rb at *
   cases rb with
   |false=>
    go_wp2_with ((with_reducible refine HR.out.mono ?_);rintro e w2 ⟨rfl,x2⟩;have X2:=aA x2;clear x2)
    go_meet
    exact ⟨by rw [KO.out];rfl,by rw [SO.out],X2.out,.inr (.inl K2.out)⟩
   |true=>
    go_wp2_with ((with_reducible refine HR.out.mono ?_);rintro e w2 ⟨rfl,x2⟩;have X2:=aA x2;have c1:=x2.cell b1;have c2:=x2.cell b2;clear x2)
    go_meet
    exact ⟨by rw [KO.out];rfl,by rw [SO.out],X2.out,.inr (.inl K2.out)⟩
  by_cases k3:s.kind=3
  ·have KO:=aA (Hy k2);have SO:=aA (Yk k3);have K3:=aA k3
   have q2:(s.kind == 2)=false:=by simp [k2]
   have q3:(s.kind == 3)=true:=by simp [k3]
   clear k2 k3
   generalize bA s.inn (-1) s.side=rb at *
   go_wp2_with ((with_reducible refine HS.out.mono ?_);rintro e w2 ⟨rfl,x2⟩;have X2:=aA x2;clear x2)
   go_meet
   exact ⟨by rw [KO.out],by rw [SO.out],X2.out,.inr (.inr K3.out)⟩
  by_cases k1:s.kind=1
  ·have KO:=aA (Hy k2);have SO:=aA (Fv k3);have K1:=aA k1
   have q2:(s.kind == 2)=false:=by simp [k2]
   have q3:(s.kind == 3)=false:=by simp [k3]
   have q1:(s.kind == 1)=true:=by simp [k1]
   clear k2 k3 k1
   go_wp2_with fail
   go_meet
   exact ⟨by rw [KO.out],by rw [SO.out],aD.refl _,.inl K1.out⟩
  ·go_wp2_with fail
   go_ret
   refine ⟨?_,Sm.out⟩
   unfold SP.good
   rw [decide_eq_false (by omega)];rfl
 case rest=>
  obtain ⟨rfl,rfl,hx,hk⟩:=hcut
  have Pj:=aA (F5 hk.out)
  obtain ⟨kb,Ya⟩ : ∃ b,s.keepOk=b:=⟨_,rfl⟩
  obtain ⟨sb,Vl⟩ : ∃ b,s.sideOk=b:=⟨_,rfl⟩
  rw [Ya,Vl] at Pj ⊢
  have b0:=aB (hx.out.cell b0);have b1:=aB (hx.out.cell b1);have b2:=aB (hx.out.cell b2);have b3:=aB (hx.out.cell b3);have b4:=aB (hx.out.cell b4);have b5:=aB (hx.out.cell b5)
  have wu:=aA (fun (w1:World) (h1:aD _ w1)=>wu.out w1 (hx.out.trans h1))
  have Sm:=aA (Sm.out.trans hx.out)
  clear Ya Vl hk HR HS
  go_upto_region 9 with fail
  cases kb with
  |false=>
   refine aC 31 (by kernel_rfl) (by kernel_rfl) (by kernel_rfl) ?_
   iterate 31
    refine aK (by kernel_rfl) (by kernel_rfl) ?_
    apply Exists.intro
    refine ⟨fun w1 aT=>?_,fun K hK=>?_⟩
    ·go_simp;first | done | rfl | exact (HW.out w1) | exact (wu.out w1 aT)
    go_simp;refine hK _ _ ?_;clear hK K
   refine aH ⟨rfl,by kernel_rfl,fun wq hwq=>?_⟩
   simp only [bL]
   go_wp2_with fail
   go_ret
   exact ⟨by rw [Pj.out];rfl,Sm.out.trans hwq⟩
  |true=>
   cases sb with
   |false=>
    refine aC 31 (by kernel_rfl) (by kernel_rfl) (by kernel_rfl) ?_
    iterate 31
     refine aK (by kernel_rfl) (by kernel_rfl) ?_
     apply Exists.intro
     refine ⟨fun w1 aT=>?_,fun K hK=>?_⟩
     ·go_simp;first | done | rfl | exact (HW.out w1) | exact (wu.out w1 aT)
     go_simp;refine hK _ _ ?_;clear hK K
    refine aH ⟨rfl,by kernel_rfl,fun wq hwq=>?_⟩
    simp only [bL]
    go_wp2_with fail
    go_ret
    exact ⟨by rw [Pj.out];rfl,Sm.out.trans hwq⟩
   |true=>
    by_cases h5:0≤s.inn
    rotate_left
    ·have zbg:=aA (zaL h5)
     have h5':=Int.not_le.1 h5
     refine aC 31 (by kernel_rfl) (by kernel_rfl) (by kernel_rfl) ?_
     iterate 31
      refine aK (by kernel_rfl) (by kernel_rfl) ?_
      apply Exists.intro
      refine ⟨fun w1 aT=>?_,fun K hK=>?_⟩
      ·go_simp;first | done | rfl | exact (HW.out w1) | exact (wu.out w1 aT)
      go_simp;refine hK _ _ ?_;clear hK K
     refine aH ⟨rfl,by kernel_rfl,fun wq hwq=>?_⟩
     simp only [bL]
     go_wp2_with fail
     go_ret
     exact ⟨by rw [Pj.out,zbg.out];rfl,Sm.out.trans hwq⟩
    by_cases h6:s.inn≤30
    rotate_left
    ·have zbg:=aA (Z_ h6)
     have h6':=Int.not_le.1 h6
     refine aC 31 (by kernel_rfl) (by kernel_rfl) (by kernel_rfl) ?_
     iterate 31
      refine aK (by kernel_rfl) (by kernel_rfl) ?_
      apply Exists.intro
      refine ⟨fun w1 aT=>?_,fun K hK=>?_⟩
      ·go_simp;first | done | rfl | exact (HW.out w1) | exact (wu.out w1 aT)
      go_simp;refine hK _ _ ?_;clear hK K
     refine aH ⟨rfl,by kernel_rfl,fun wq hwq=>?_⟩
     simp only [bL]
     go_wp2_with fail
     go_ret
     exact ⟨by rw [Pj.out,zbg.out];rfl,Sm.out.trans hwq⟩
    by_cases h7:1≤s.most
    rotate_left
    ·have zbg:=aA (zaN h7)
     have h7':=Int.not_le.1 h7
     refine aC 31 (by kernel_rfl) (by kernel_rfl) (by kernel_rfl) ?_
     iterate 31
      refine aK (by kernel_rfl) (by kernel_rfl) ?_
      apply Exists.intro
      refine ⟨fun w1 aT=>?_,fun K hK=>?_⟩
      ·go_simp;first | done | rfl | exact (HW.out w1) | exact (wu.out w1 aT)
      go_simp;refine hK _ _ ?_;clear hK K
     refine aH ⟨rfl,by kernel_rfl,fun wq hwq=>?_⟩
     simp only [bL]
     go_wp2_with fail
     go_ret
     exact ⟨by rw [Pj.out,zbg.out];rfl,Sm.out.trans hwq⟩
    by_cases h8:s.most≤65536
    rotate_left
    ·have zbg:=aA (zay h8)
     have h8':=Int.not_le.1 h8
     refine aC 31 (by kernel_rfl) (by kernel_rfl) (by kernel_rfl) ?_
     iterate 31
      refine aK (by kernel_rfl) (by kernel_rfl) ?_
      apply Exists.intro
      refine ⟨fun w1 aT=>?_,fun K hK=>?_⟩
      ·go_simp;first | done | rfl | exact (HW.out w1) | exact (wu.out w1 aT)
      go_simp;refine hK _ _ ?_;clear hK K
     refine aH ⟨rfl,by kernel_rfl,fun wq hwq=>?_⟩
     simp only [bL]
     go_wp2_with fail
     go_ret
     exact ⟨by rw [Pj.out,zbg.out];rfl,Sm.out.trans hwq⟩
    have zjF:=aA (L2 h5 h6 h7 h8)
    generalize bA s.width (-1) s.up=rb at *
    refine aC 31 (by kernel_rfl) (by kernel_rfl) (by kernel_rfl) ?_
    iterate 31
     refine aK (by kernel_rfl) (by kernel_rfl) ?_
     apply Exists.intro
     refine ⟨fun w1 aT=>?_,fun K hK=>?_⟩
     ·go_simp;first | done | rfl | exact (HW.out w1) | exact (wu.out w1 aT)
     go_simp;refine hK _ _ ?_;clear hK K
    refine aH ⟨rfl,by kernel_rfl,fun wq hwq=>?_⟩
    simp only [bL]
    go_wp2_with fail
    go_ret
    exact ⟨by rw [Pj.out,zjF.out];rfl,Sm.out.trans hwq⟩
def dN (s:SP):NK:=⟨s.kind.toNat,s.inn.toNat,s.keep.map Int.toNat,s.side.map Int.toNat,s.up.map Int.toNat,s.most.toNat⟩
structure kS (s:SP):Prop where
 kind:s.kind=1∨s.kind=2∨s.kind=3
 inn:0≤s.inn∧s.inn≤30
 most:1≤s.most∧s.most≤65536
 keep:s.keepOk=true
 side:s.sideOk=true
 up:bA s.width (-1) s.up=true
theorem tH {s:SP} (h:s.good=true):kS s:=by
 unfold SP.good SP.restOk at h
 simp only [Bool.and_eq_true,decide_eq_true_eq] at h
 obtain ⟨⟨⟨h1,h2⟩,h3⟩,⟨⟨⟨h4,h5⟩,h6⟩,h7⟩,h8⟩:=h
 exact ⟨h1,⟨h4,h5⟩,⟨h6,h7⟩,h2,h3,h8⟩
theorem Bv {w:Int}:∀ {l:Int} {xs:List Int},bA w l xs=true→∀ x∈xs,l<x∧x<w
 | _,[],_,x,hx=>by cases hx
 |l,c :: xs,h,x,hx=>by
  unfold bA at h
  simp only [Bool.and_eq_true,decide_eq_true_eq] at h
  rcases List.mem_cons.1 hx with rfl | hx
  ·exact ⟨h.1,h.2.1⟩
  ·have:=Bv h.2.2 x hx;exact ⟨by omega,this.2⟩
theorem Er {w:Int}:∀ {l:Int} {xs:List Int},bA w l xs=true→-1≤l→(xs.length:Int)≤w - l - 1∨xs=[]
 | _,[],_,_=>.inr rfl
 |l,c :: xs,h,hl=>by
  unfold bA at h
  simp only [Bool.and_eq_true,decide_eq_true_eq] at h
  left
  rcases Er h.2.2 (by omega) with h2 | rfl
  ·rw [List.length_cons];omega
  ·simp;omega
theorem mW {w:Int} {xs:List Int} (h:bA w (-1) xs=true) (hw:w≤30):xs.length≤30∧∀ c∈xs.map Int.toNat,c<w.toNat:=by
 refine ⟨?_,fun c hc=>?_⟩
 ·rcases Er h (by omega) with h2 | rfl
  ·omega
  ·simp
 ·obtain ⟨x,hx,rfl⟩:=List.mem_map.1 hc
  have:=Bv h x hx;omega
theorem wB {w:Int} {xs:List Int} (h:bA w (-1) xs=true):(xs.map Int.toNat).map Int.ofNat=xs:=by
 rw [List.map_map]
 conv=>rhs;rw [← List.map_id xs]
 refine List.map_congr_left fun x hx=>?_
 have:=Bv h x hx
 exact Int.toNat_of_nonneg (by omega)
theorem tI {s:SP} (h:kS s):(s.kind=2∧bA s.inn (-1) s.keep=true∧(s.keep.length:Int)<s.inn)∨(s.kind≠2∧s.keep=[]):=by
 have hk:=h.keep
 unfold SP.keepOk at hk
 by_cases k2:s.kind=2
 ·rw [if_pos k2] at hk
  simp only [Bool.and_eq_true,decide_eq_true_eq] at hk
  exact .inl ⟨k2,hk.1,hk.2⟩
 ·rw [if_neg k2,decide_eq_true_eq] at hk
  exact .inr ⟨k2,List.length_eq_zero_iff.1 hk⟩
theorem pJ {s:SP} (h:kS s):(s.kind=3∧bA s.inn (-1) s.side=true)∨(s.kind≠3∧s.side=[]):=by
 have hk:=h.side
 unfold SP.sideOk at hk
 by_cases k2:s.kind=3
 ·rw [if_pos k2] at hk;exact .inl ⟨k2,hk⟩
 ·rw [if_neg k2,decide_eq_true_eq] at hk
  exact .inr ⟨k2,List.length_eq_zero_iff.1 hk⟩
theorem zN {s:SP} (h:kS s):0≤s.width∧s.width≤30:=by
 unfold SP.width
 rcases tI h with ⟨k,h1,h2⟩ | ⟨k,h1⟩
 ·rw [if_pos k];have:=h.inn;omega
 ·rw [if_neg k];exact h.inn
theorem Jf {s:SP} (h:kS s):(dN s).width=s.width.toNat:=by
 unfold NK.width SP.width dN
 dsimp only
 rcases h.kind with k | k | k
 ·rw [if_neg (by omega),if_neg (by omega)]
 ·rw [if_pos (by omega),if_pos k,List.length_map];omega
 ·rw [if_neg (by omega),if_neg (by omega)]
theorem Bw {w m:Int} {gs:List (List Int)} (h1:0≤w∧w≤30) (h2:1≤m∧m≤65536) (h3:gs.length≤4) (h4:∀ g∈gs,bA w (-1) g=true):lH w m gs=0:=by
 rw [wY (by omega) (by omega) (by omega),if_pos (List.all_eq_true.2 h4)]
theorem I4 {s:SP} (h:kS s):s.side.length≤30:=by
 rcases pJ h with ⟨-,h1⟩ | ⟨-,h1⟩
 ·exact (mW h1 h.inn.2).1
 ·rw [h1];simp
theorem Y5 {s:SP} (h:kS s):fN (dN s):=by
 have hm:=h.most
 have hi:=h.inn
 refine ⟨?_,?_,?_,?_,?_,?_⟩
 ·show s.kind.toNat=1∨s.kind.toNat=2∨s.kind.toNat=3
  rcases h.kind with k | k | k <;> omega
 ·show s.inn.toNat≤30
  omega
 ·show 1≤s.most.toNat∧s.most.toNat≤65536
  omega
 ·show (s.keep.map Int.toNat).length≤30∧∀ c∈s.keep.map Int.toNat,c<s.inn.toNat
  rw [List.length_map]
  rcases tI h with ⟨-,h1,-⟩ | ⟨-,h1⟩
  ·exact mW h1 hi.2
  ·rw [h1];simp
 ·show (s.side.map Int.toNat).length≤30∧∀ c∈s.side.map Int.toNat,c<s.inn.toNat
  rw [List.length_map]
  rcases pJ h with ⟨-,h1⟩ | ⟨-,h1⟩
  ·exact mW h1 hi.2
  ·rw [h1];simp
 ·rw [Jf h]
  show (s.up.map Int.toNat).length≤30∧∀ c∈s.up.map Int.toNat,c<s.width.toNat
  rw [List.length_map]
  exact mW h.up (zN h).2
theorem wG {s:SP} (h:kS s):(dN s).keep.map Int.ofNat=s.keep:=by
 rcases tI h with ⟨-,h1,-⟩ | ⟨-,h1⟩
 ·exact wB h1
 ·unfold dN;rw [h1];rfl
theorem wR {s:SP} (h:kS s):(dN s).side.map Int.ofNat=s.side:=by
 rcases pJ h with ⟨-,h1⟩ | ⟨-,h1⟩
 ·exact wB h1
 ·unfold dN;rw [h1];rfl
theorem Hf {s:SP} (h:kS s):(dN s).up.map Int.ofNat=s.up:=wB h.up
def iF:List (Nat × Nat)→Nat→Option Nat
 | [],_=>none
 | (T,i) :: l,b=>if b<T then some i else iF l b
def jI (T0:Nat) (l:List (Nat × Nat)):aP:=fun b=>if b<T0 then none else iF l b
def fH:aR:=⟨⟨[],[],[],[]⟩,none⟩
theorem Ss {w:World} {K:NK} {v:eT} {lab:aP} {N:Nat} (hK:fN K) (h1:aL w v.n 48 #[ptr v.l,.iface (cI K) (ptr v.k)]) (h2:aL w v.l 90 (Ky K v)) (h3:aL w v.k (lN K) (jO K v))
 (b1:lab v.n=some 0) (b2:lab v.l=some 0) (b3:lab v.k=some 0) (r1:jX w (lab.own 0) v.kA K.keep.length (K.keep.map Int.ofNat)) (r2:jX w (lab.own 0) v.sA K.side.length (K.side.map Int.ofNat)) (r3:jX w (lab.own 0) v.uA K.up.length (K.up.map Int.ofNat))
 (s1:kK w (lab.own 1) v.x1 (S1 K fH) N) (s2:K.kind=3→kK w (lab.own 2) v.x2 (S2 K fH) N) (s3:K.kind=3→kK w (lab.own 3) v.x3 (S3 K fH) N)
 (m1:K.kind=2→lab v.m1=some 4∧jB w v.m1 0 (fun _=>none)∧v.m2=.map none) (bC:∀ b i,lab b=some i→b<w.heap.size):Vh w lab.dom v.n K fH N:=by
 refine ⟨hK,iS.start K,fun o ho=>(by cases ho),lab,v,⟨⟨bC,fun i=>?_⟩,s1⟩,rfl,fun _ h=>h⟩
 match i with
 | 0=>exact ⟨⟨h1,b1⟩,⟨h2,b2⟩,⟨h3,b3⟩,r1,r2,r3⟩
 | 1=>exact trivial
 | 2=>exact s2
 | 3=>exact s3
 | 4=>exact fun hk=>⟨(m1 hk).1,0,_,Nat.zero_le _,(m1 hk).2.1,fun own _=>rfl⟩
 | 5=>exact fun hk=>⟨none,(m1 hk).2.2,fun o ho=>by cases ho⟩
 | _+6=>exact trivial
def kD (b:Nat) (w:World) (A:Option Addr) (c:Nat) (xs:List Int):Prop:=w.ownsRow b 3 1 (.slice A xs.length c) xs.length (xs.map (Value.int .i64))
theorem kD.ext {b:Nat} {w w':World} {A:Option Addr} {c:Nat} {xs:List Int} (h:kD b w A c xs) (hw:aD w w'):kD b w' A c xs:=dX h hw
theorem kD.set_ {b:Nat} {w:World} {A:Option Addr} {c:Nat} {xs:List Int} (h:kD b w A c xs) {g:Nat} {t:TypeId} {cs:Array Value} (hb:aL w g t cs) (aZ:3≠t) (j:Nat) (u:Value):kD b (w.setCell ⟨g,j,none⟩ u) A c xs:=uS h hb aZ j u
theorem kD.num {b:Nat} {w:World} {A:Option Addr} {c:Nat} {xs:List Int} (h:kD b w A c xs):cB w A xs.length xs:=cB.own h
theorem kD.lt {b:Nat} {w:World} {A:Option Addr} {c:Nat} {xs:List Int} (h:kD b w A c xs):∀ a,A=some a→b≤a.block∧a.block<w.heap.size:=fun a ha=>by
 subst ha
 exact World.ownsRow.lt h a.block rfl
theorem wH {w w1:World} {A:Option Addr} (c:Nat) {xs:List Int} (h:cB w A xs.length xs) (hl:xs.length≤1048576) (hw:aD w w1) :
 Calls Tryz.prog 61 #[.slice A xs.length c] w1 fun e w'=>∃ v,e=.returned v∧aD w1 w'∧∃ A' c',v=.slice A' xs.length c'∧kD w.heap.size w' A' c' xs:=by
 refine (Xy (xs.map (Value.int .i64)) A xs.length c w1 (h.ext hw).2 (Cj xs) (by omega)).mono ?_
 rintro e w' ⟨A',c',rfl,h1,h2⟩
 exact ⟨_,rfl,h2,A',c',rfl,dI h1 hw.size⟩
def Ua (b:Nat) (xs:List Int) (v:Value) (w:World):Prop:=∃ A' c',v=.slice A' xs.length c'∧kD b w A' c' xs
theorem Ua.ext {b:Nat} {xs:List Int} {v:Value} {w w':World} (h:Ua b xs v w) (hw:aD w w'):Ua b xs v w':=by
 obtain ⟨A,c,e,h⟩:=h
 exact ⟨A,c,e,h.ext hw⟩
theorem jb {w:World} {gb:Nat} {A:Option Addr} {c:Nat} {xs:List Int} (hb:aL w gb 23 #[.slice A xs.length c]) (h:cB w A xs.length xs):qJ w (some ⟨gb,0,none⟩) 1 [xs]:=by
 refine ⟨rfl,_,hb.sl (n:=1) (size:=1) rfl,fun k g hg=>?_⟩
 cases k with
 |zero=>
  obtain rfl:xs=g:=by simpa using hg
  exact ⟨_,_,rfl,h⟩
 | succ k=>simp at hg
theorem zg {s:SP} (h:kS s) (v:eT):Ky (dN s) v = #[.int .i64 s.kind,.int .i64 s.inn,.slice v.kA s.keep.length v.kC,.slice v.sA s.side.length v.sC,.slice v.uA s.up.length v.uC,.int .i64 s.most,ptr v.x1]:=by
 have h1:((s.kind.toNat:Nat):Int)=s.kind:=by rcases h.kind with k | k | k <;> omega
 have h2:((s.inn.toNat:Nat):Int)=s.inn:=by have:=h.inn;omega
 have h3:((s.most.toNat:Nat):Int)=s.most:=by have:=h.most;omega
 unfold Ky dN
 dsimp only
 rw [h1,h2,h3,List.length_map,List.length_map,List.length_map]
theorem Ng {w:World} {b:Nat} {A:Option Addr} {c:Nat} {xs:List Int} {ys:List Nat} {B:Nat→Prop} (h:kD b w A c xs) (hy:ys.map Int.ofNat=xs) (hl:∀ a,A=some a→B a.block):jX w B A ys.length (ys.map Int.ofNat):=by
 subst hy
 have h1:=h.num
 rw [List.length_map] at h1
 exact ⟨h1,hl⟩
theorem Jo {T:Nat}:∀ {L:List (Nat × Nat)} {g i:Nat},(∀ p∈L,p.1≤T)→iF L g=some i→g<T
 | [],_,_,_,h=>by cases h
 |(U,j) :: L,g,i,hL,h=>by
  unfold iF at h
  have h0:=hL (U,j) (List.mem_cons_self ..)
  dsimp only at h0
  split at h
  ·omega
  ·exact Jo (fun p hp=>hL p (List.mem_cons_of_mem _ hp)) h
theorem Gd {T0 T:Nat} {L:List (Nat × Nat)} {g i:Nat} (hL:∀ p∈L,p.1≤T) (h:jI T0 L g=some i):T0≤g∧g<T:=by
 unfold jI at h
 split at h
 ·cases h
 ·exact ⟨by omega,Jo hL h⟩
theorem Cl (w:World) (p:Addr) (u:Value):(w.setCell p u).heap.size=w.heap.size:=by simp
theorem Gb {w4 w7 w8:World} {s:SP} {b l k x1 x2 x3 m1 kC sC uC:Nat} {kA sA uA:Option Addr} {m2:Value} {xz:Nat→Prop} {lab:aP} (hF:kS s) (x78:aD w7 w8)
 (hl:aL w7 l 90 #[.int .i64 s.kind,.int .i64 s.inn,.slice kA s.keep.length kC,.slice sA s.side.length sC,.slice uA s.up.length uC,.int .i64 s.most,ptr x1])
 (hn:aL w7 (l+1) 48 #[ptr l,.nilIface]) (hk:aL w8 k (lN (dN s)) (jO (dN s) ⟨l+1,l,k,kA,kC,sA,sC,uA,uC,x1,x2,x3,m1,m2⟩)) (Ko:k≠l+1)
 (i1:kK w7 xz x1 ⟨s.width.toNat,s.most.toNat,[s.up].map fun g=>g.map Int.toNat,[],none⟩ 262144) (o1:kD b w7 uA uC s.up) (o2:kD b w7 sA sC s.side) (o3:kD b w7 kA kC s.keep)
 (p1:kD b w4 uA uC s.up) (p2:kD b w4 sA sC s.side) (p3:kD b w4 kA kC s.keep) (hr:∀ g,b≤g→g<w4.heap.size→lab g=some 0) (l0:lab l=some 0) (l1:lab (l+1)=some 0) (l2:lab k=some 0)
 (hb:∀ g,xz g→lab g=some 1) (bC:∀ g i,lab g=some i→g<w8.heap.size) (s2:s.kind=3→kK w8 (lab.own 2) x2 (S2 (dN s) fH) 262144) (s3:s.kind=3→kK w8 (lab.own 3) x3 (S3 (dN s) fH) 262144)
 (hm:s.kind=2→lab m1=some 4∧jB w8 m1 0 (fun _=>none)∧m2=.map none) :
 Vh (w8.setCell ⟨l+1,1,none⟩ (.iface (cI (dN s)) (ptr k))) lab.dom (l+1) (dN s) fH 262144:=by
 have zeV:=hn.ext x78
 have hC:aF (fun g=>g=l+1) w8 (w8.setCell ⟨l+1,1,none⟩ (.iface (cI (dN s)) (ptr k))):=eW w8 (l+1) 1 _
 have hs:∀ {B:Nat→Prop} {x:Nat} {S:aY} {i:Nat},(∀ g,B g→lab g=some i)→i≠0→kK w8 B x S 262144→kK (w8.setCell ⟨l+1,1,none⟩ (.iface (cI (dN s)) (ptr k))) (lab.own i) x S 262144:=fun h1 h2 h3=>
  (h3.chg hC fun g hg e=>by subst e;have:=h1 _ hg;rw [l1] at this;injection this with this;exact h2 this.symm).mono fun g hg=>h1 g hg
 have zjf:(dN s).kind=s.kind.toNat:=rfl
 have e1:(⟨s.width.toNat,s.most.toNat,[s.up].map fun g=>g.map Int.toNat,[],none⟩ : aY)=S1 (dN s) fH:=by unfold S1;rw [Jf hF];rfl
 have dY:∀ {A:Option Addr} {c:Nat} {xs:List Int},kD b w4 A c xs→∀ a,A=some a→lab.own 0 a.block:=fun h a ha=>hr _ (h.lt a ha).1 (h.lt a ha).2
 refine Ss (v:=⟨l+1,l,k,kA,kC,sA,sC,uA,uC,x1,x2,x3,m1,m2⟩) (Y5 hF) (zeV.set_ 1 _) ?_ (hk.far Ko _) l1 l0 l2 ?_ ?_ ?_ (hs (i:=1) hb (by decide) (e1 ▸ i1.ext x78)) (fun h=>hs (i:=2) (fun g hg=>hg) (by decide) (s2 (by omega))) (fun h=>hs (i:=3) (fun g hg=>hg) (by decide) (s3 (by omega))) (fun h=>?_) (fun g i hg=>by have:=bC g i hg;have:=hC.size;omega)
 ·rw [zg hF]
  exact (hl.ext x78).far (by show l≠l+1;omega) _
 ·exact Ng ((o3.ext x78).set_ zeV (by decide) 1 _) (wG hF) (dY p3)
 ·exact Ng ((o2.ext x78).set_ zeV (by decide) 1 _) (wR hF) (dY p2)
 ·exact Ng ((o1.ext x78).set_ zeV (by decide) 1 _) (Hf hF) (dY p1)
 ·obtain ⟨h1,h2,h3⟩:=hm (by omega)
  exact ⟨h1,h2.setCell (fun e=>by
   have e:m1=l+1:=e
   rw [e,l1] at h1;injection h1 with h1;exact absurd h1 (by decide)) _,h3⟩
theorem Vx {s:SP} (h:kS s):∀ g∈[s.up],bA s.width (-1) g=true:=fun g hg=>by
 obtain rfl:=List.mem_singleton.1 hg;exact h.up
theorem Wi {s:SP} (h:kS s):∀ g∈[s.up],g.length≤1048576:=fun g hg=>by
 obtain rfl:=List.mem_singleton.1 hg
 have:=(mW h.up (zN h).2).1;omega
theorem Mn {s:SP} (h:kS s):∀ g∈[s.side],g.length≤1048576:=fun g hg=>by
 obtain rfl:=List.mem_singleton.1 hg
 have:=I4 h;omega
theorem Uz {s:SP} (h:kS s) (h3:s.kind=3):∀ g∈[s.side],bA s.inn (-1) g=true:=fun g hg=>by
 obtain rfl:=List.mem_singleton.1 hg
 rcases pJ h with ⟨-,h1⟩ | ⟨h1,-⟩
 ·exact h1
 ·exact absurd h3 h1
set_option maxRecDepth 100000 in
set_option maxHeartbeats 4000000 in
theorem Qe {w:World} {s:SP} {L:Cv} (h:j9 w s L) :
 Calls Tryz.prog 30 #[.agg (bQ s L)] w fun e w'=>aD w w'∧((s.good=false∧e=.returned (.tuple #[.pointer none,.int .i64 190]))∨(s.good=true∧∃ n B,e=.returned (.tuple #[.pointer (some ⟨n,0,none⟩),.int .i64 0])∧Vh w' B n (dN s) fH 262144∧(∀ b,B b→w.heap.size≤b)∧∀ b,B b→b<w'.heap.size)):=by
 obtain ⟨g,hg⟩ : ∃ g,w.heap.size=g:=⟨_,rfl⟩
 obtain ⟨w0,Ce⟩ : ∃ w0,w.alloc (.cells (bQ s L) 25)=w0:=⟨_,rfl⟩
 have hb:=aL.new w 25 (bQ s L)
 have he:=aD.alloc w (.cells (bQ s L) 25)
 rw [Ce] at hb he
 rw [hg] at hb
 have HE:=aA he
 have HB:=aA hb
 have lT:=aA (Nat.le_of_eq hg)
 have b0:w0.cell? ⟨g,0,none⟩=some (.int .i64 s.kind):=hb.cell 0
 have b1:w0.cell? ⟨g,1,none⟩=some (.int .i64 s.inn):=hb.cell 1
 have b2:w0.cell? ⟨g,2,none⟩=some (.slice L.kA s.keep.length L.kC):=hb.cell 2
 have b3:w0.cell? ⟨g,3,none⟩=some (.slice L.sA s.side.length L.sC):=hb.cell 3
 have b4:w0.cell? ⟨g,4,none⟩=some (.slice L.uA s.up.length L.uC):=hb.cell 4
 have b5:w0.cell? ⟨g,5,none⟩=some (.int .i64 s.most):=hb.cell 5
 have HG:=aA (Xg (h.ext he))
 have HS:=aA (h.ext he)
 clear h hb he
 obtain ⟨z,hz⟩ : ∃ z,s.good=z:=⟨_,rfl⟩
 rw [hz] at HG ⊢
 have HZ:=aA hz
 clear hz
 unfold bQ at *
 cases z with
 |false=>
  go_enter Tryz.func30,Tryz.ntmps30
  go_wp2_with ((with_reducible refine HG.out.mono ?_);rintro e w1 ⟨rfl,x1⟩;have X1:=aA x1;clear x1)
  go_ret2
  exact ⟨HE.out.trans X1.out,.inl ⟨trivial,rfl⟩⟩
 |true=>
  have HF:=aA (tH HZ.out)
  go_enter Tryz.func30,Tryz.ntmps30
  go_upto_region 3 with ((with_reducible refine HG.out.mono ?_);rintro e w1 ⟨rfl,x1⟩;have X1:=aA x1;clear x1)
  clear Ce hg
  have b0:=X1.out.cell b0;have b1:=X1.out.cell b1;have b2:=X1.out.cell b2;have b3:=X1.out.cell b3;have b4:=X1.out.cell b4;have b5:=X1.out.cell b5
  have zft:=aA (HB.out.ext X1.out)
  have sQ:=aA (HS.out.ext X1.out)
  have b2:=aB b2;have b3:=aB b3;have b4:=aB b4
  refine aC 10 (by kernel_rfl) (by kernel_rfl) (by kernel_rfl) ?_
  iterate 2
   refine aK (by kernel_rfl) (by kernel_rfl) ?_
   apply Exists.intro
   refine ⟨fun w1 aT=>?_,fun K hK=>?_⟩
   ·go_simp;first | done | rfl
   go_simp;refine hK _ _ ?_;clear hK K
  refine cU [] (Ua w1.heap.size s.keep) (fun u w1 w2 _ h2 h=>h.ext h2) rfl (by kernel_rfl) (fun w2 uP=>?_) ?_
  ·have HC:=wH L.kC sQ.out.keep sQ.out.kl uP
   clear b0 b1 b2 b3 b4 b5
   simp only [cN]
   go_simp
   exact ⟨aD.refl _,HC⟩
  iterate 2
   refine aK (by kernel_rfl) (by kernel_rfl) ?_
   apply Exists.intro
   refine ⟨fun w1 aT=>?_,fun K hK=>?_⟩
   ·go_simp;first | done | rfl
   go_simp;refine hK _ _ ?_;clear hK K
  refine cU [] (Ua w1.heap.size s.side) (fun u w1 w2 _ h2 h=>h.ext h2) rfl (by kernel_rfl) (fun w2 uP=>?_) ?_
  ·have HC:=wH L.sC sQ.out.side sQ.out.sl uP
   clear b0 b1 b2 b3 b4 b5
   simp only [cN]
   go_simp
   exact ⟨aD.refl _,HC⟩
  iterate 2
   refine aK (by kernel_rfl) (by kernel_rfl) ?_
   apply Exists.intro
   refine ⟨fun w1 aT=>?_,fun K hK=>?_⟩
   ·go_simp;first | done | rfl
   go_simp;refine hK _ _ ?_;clear hK K
  refine cU [] (Ua w1.heap.size s.up) (fun u w1 w2 _ h2 h=>h.ext h2) rfl (by kernel_rfl) (fun w2 uP=>?_) ?_
  ·have HC:=wH L.uC sQ.out.up sQ.out.ul uP
   clear b0 b1 b2 b3 b4 b5
   simp only [cN]
   go_simp
   exact ⟨aD.refl _,HC⟩
  iterate 1
   refine aK (by kernel_rfl) (by kernel_rfl) ?_
   apply Exists.intro
   refine ⟨fun w1 aT=>?_,fun K hK=>?_⟩
   ·go_simp;first | done | rfl
   go_simp;refine hK _ _ ?_;clear hK K
  refine aH ⟨rfl,by kernel_rfl,fun w3 hw3=>?_⟩
  simp only [bL,List.drop]
  rintro _ ⟨uA,uC,rfl,o1⟩ _ ⟨sA,sC,rfl,o2⟩ _ ⟨kA,kC,rfl,o3⟩
  clear b2 b3 b4
  have X3:=aA hw3
  have B3:=aA (zft.out.ext hw3)
  have E3:=aA ((HE.out.trans X1.out).trans hw3)
  have zk:=aA (B3.out.set_ 2 (.slice kA s.keep.length kC))
  have vh:=aA (zk.out.set_ 3 (.slice sA s.side.length sC))
  have zeY:=aA (vh.out.set_ 4 (.slice uA s.up.length uC))
  have O1:=aA (((o1.set_ B3.out (by decide) 2 (.slice kA s.keep.length kC)).set_ zk.out (by decide) 3 (.slice sA s.side.length sC)).set_ vh.out (by decide) 4 (.slice uA s.up.length uC))
  have O2:=aA (((o2.set_ B3.out (by decide) 2 (.slice kA s.keep.length kC)).set_ zk.out (by decide) 3 (.slice sA s.side.length sC)).set_ vh.out (by decide) 4 (.slice uA s.up.length uC))
  have O3:=aA (((o3.set_ B3.out (by decide) 2 (.slice kA s.keep.length kC)).set_ zk.out (by decide) 3 (.slice sA s.side.length sC)).set_ vh.out (by decide) 4 (.slice uA s.up.length uC))
  have E4:=aA (((E3.out.setCell (p:=⟨g,2,none⟩) lT.out (.slice kA s.keep.length kC)).setCell (p:=⟨g,3,none⟩) lT.out (.slice sA s.side.length sC)).setCell (p:=⟨g,4,none⟩) lT.out (.slice uA s.up.length uC))
  have c2:=B3.out.cell 2;have c3:=B3.out.cell 3;have c4:=B3.out.cell 4
  have f2:=B3.out.frozen 2;have f3:=B3.out.frozen 3;have f4:=B3.out.frozen 4
  have L1:=aA (show w.heap.size≤w1.heap.size∧g<w1.heap.size from ⟨(HE.out.trans X1.out).size,zft.out.lt⟩)
  clear hw3 o1 o2 o3 b0 b1 b5
  go_upto_region 4 with fail
  clear c2 c3 c4 f2 f3 f4 zk vh B3
  generalize ((w3.setCell ⟨g,2,none⟩ (.slice kA s.keep.length kC)).setCell ⟨g,3,none⟩ (.slice sA s.side.length sC)).setCell ⟨g,4,none⟩ (.slice uA s.up.length uC)=w4 at *
  have B4:=aA (show aL w4 g 25 #[.int .i64 s.kind,.int .i64 s.inn,.slice kA s.keep.length kC,.slice sA s.side.length sC,.slice uA s.up.length uC,.int .i64 s.most] from zeY.out)
  clear zeY E3 X3 sQ HS HG HB zft HE X1
  have HW:=aA (fun w1=>Ee w1 s ⟨kA,kC,sA,sC,uA,uC⟩)
  unfold bQ at HW
  have c0:w4.cell? ⟨g,0,none⟩=some (.int .i64 s.kind):=B4.out.cell 0
  have c1:w4.cell? ⟨g,1,none⟩=some (.int .i64 s.inn):=B4.out.cell 1
  have c2:w4.cell? ⟨g,2,none⟩=some (.slice kA s.keep.length kC):=B4.out.cell 2
  have c3:w4.cell? ⟨g,3,none⟩=some (.slice sA s.side.length sC):=B4.out.cell 3
  have c4:w4.cell? ⟨g,4,none⟩=some (.slice uA s.up.length uC):=B4.out.cell 4
  have c5:w4.cell? ⟨g,5,none⟩=some (.int .i64 s.most):=B4.out.cell 5
  have c0:=aB c0;have c1:=aB c1;have c2:=aB c2;have c3:=aB c3;have c4:=aB c4;have c5:=aB c5
  refine mM 7 (by kernel_rfl) (by kernel_rfl) (by kernel_rfl) (fun _ _ _ _ _ h=>h) ?_
  iterate 6
   refine aK (by kernel_rfl) (by kernel_rfl) ?_
   apply Exists.intro
   refine ⟨fun w1 aT=>?_,fun K hK=>?_⟩
   ·go_simp;first | done | rfl | exact (HW.out w1)
   go_simp;refine hK _ _ ?_;clear hK K
  refine cU [] (fun u w1=>∃ gb,u=.slice (some ⟨gb,0,none⟩) 1 1∧aL w1 gb 23 #[.slice uA s.up.length uC]) (fun u w1 w2 _ h2 ⟨gb,h3,h4⟩=>⟨gb,h3,h4.ext h2⟩) rfl (by kernel_rfl) (fun w1 aT=>?_) ?_
  ·clear c0 c1 c2 c3 c4 c5
   simp only [cN]
   go_simp
   exact ⟨aD.alloc _ _,aL.new _ _ _⟩
  refine aH ⟨rfl,by kernel_rfl,fun w5 hw5=>?_⟩
  simp only [bL,List.drop,List.take]
  rintro _ ⟨gb,rfl,hgb⟩
  have c0:=c0 w5 hw5;have c1:=c1 w5 hw5;have c2:=c2 w5 hw5;have c3:=c3 w5 hw5;have c4:=c4 w5 hw5;have c5:=c5 w5 hw5
  have HN:=aA (qW (width:=s.width) (most:=s.most) (A:=some ⟨gb,0,none⟩) (n:=1) 1 (gs:=[s.up]) (jb hgb (O1.out.num.ext hw5)) (by decide) (Wi HF.out) (Bw (zN HF.out) HF.out.most (by simp) (Vx HF.out)))
  have X5:=aA hw5
  clear hw5 hgb HW
  go_wp2_with ((with_reducible refine HN.out.mono ?_);rintro e w6 ⟨x1,xz,rfl,h6,i6,l6,u6⟩;have X6:=aA h6;have I6:=aA i6;have L6:=aA l6;have U6:=aA u6;have c0:=h6.cell c0;have c1:=h6.cell c1;have c2:=h6.cell c2;have c3:=h6.cell c3;have c4:=h6.cell c4;have c5:=h6.cell c5;clear h6 i6 l6 u6)
  simp only [zcp,zap]
  refine ⟨_,rfl,?_⟩;go_simp
  refine ⟨_,rfl,?_⟩;go_simp
  refine ⟨_,rfl,?_⟩;go_simp
  refine ⟨_,rfl,?_⟩;go_simp
  refine ⟨_,rfl,?_⟩;go_simp
  have BL:=aA (show aL ((w6.alloc (.cells #[.int .i64 s.kind,.int .i64 s.inn,.slice kA s.keep.length kC,.slice sA s.side.length sC,.slice uA s.up.length uC,.int .i64 s.most,.pointer (some ⟨x1,0,none⟩)] 90)).alloc (.cells #[.pointer (some ⟨w6.heap.size,0,none⟩),.nilIface] 48)) w6.heap.size 90 #[.int .i64 s.kind,.int .i64 s.inn,.slice kA s.keep.length kC,.slice sA s.side.length sC,.slice uA s.up.length uC,.int .i64 s.most,.pointer (some ⟨x1,0,none⟩)] from (aL.new w6 _ _).ext (aD.alloc _ _))
  have BN:=aA (show aL ((w6.alloc (.cells #[.int .i64 s.kind,.int .i64 s.inn,.slice kA s.keep.length kC,.slice sA s.side.length sC,.slice uA s.up.length uC,.int .i64 s.most,.pointer (some ⟨x1,0,none⟩)] 90)).alloc (.cells #[.pointer (some ⟨w6.heap.size,0,none⟩),.nilIface] 48)) (w6.heap.size+1) 48 #[.pointer (some ⟨w6.heap.size,0,none⟩),.nilIface] from by
   have h:=aL.new (w6.alloc (.cells #[.int .i64 s.kind,.int .i64 s.inn,.slice kA s.keep.length kC,.slice sA s.side.length sC,.slice uA s.up.length uC,.int .i64 s.most,.pointer (some ⟨x1,0,none⟩)] 90)) 48 #[.pointer (some ⟨w6.heap.size,0,none⟩),.nilIface]
   rw [World.size_alloc] at h
   exact h)
  have X7:=aA ((aD.alloc w6 (.cells #[.int .i64 s.kind,.int .i64 s.inn,.slice kA s.keep.length kC,.slice sA s.side.length sC,.slice uA s.up.length uC,.int .i64 s.most,.pointer (some ⟨x1,0,none⟩)] 90)).alloc' (.cells #[.pointer (some ⟨w6.heap.size,0,none⟩),.nilIface] 48))
  have Z7:=aA (show ((w6.alloc (.cells #[.int .i64 s.kind,.int .i64 s.inn,.slice kA s.keep.length kC,.slice sA s.side.length sC,.slice uA s.up.length uC,.int .i64 s.most,.pointer (some ⟨x1,0,none⟩)] 90)).alloc (.cells #[.pointer (some ⟨w6.heap.size,0,none⟩),.nilIface] 48)).heap.size=w6.heap.size+2 from by rw [World.size_alloc,World.size_alloc])
  go_upto_region 6 with fail
  generalize (w6.alloc (.cells #[.int .i64 s.kind,.int .i64 s.inn,.slice kA s.keep.length kC,.slice sA s.side.length sC,.slice uA s.up.length uC,.int .i64 s.most,.pointer (some ⟨x1,0,none⟩)] 90)).alloc (.cells #[.pointer (some ⟨w6.heap.size,0,none⟩),.nilIface] 48)=w7 at *
  have c0:=X7.out.cell c0;have c1:=X7.out.cell c1;have c2:=X7.out.cell c2;have c3:=X7.out.cell c3;have c5:=X7.out.cell c5
  obtain ⟨l,hl⟩ : ∃ l,w6.heap.size=l:=⟨_,rfl⟩
  rw [hl] at BL BN Z7 ⊢
  have HL:=aA hl
  have n0:w7.cell? ⟨l+1,0,none⟩=some (.pointer (some ⟨l,0,none⟩)):=BN.out.cell 0
  have n1:w7.cell? ⟨l+1,1,none⟩=some .nilIface:=BN.out.cell 1
  have f1:=BN.out.frozen 1
  have f2:=fun o=>(BN.out.ext (aD.alloc w7 o)).frozen 1
  have n2:∀ o,(w7.alloc o).cell? ⟨l+1,1,none⟩=some .nilIface:=fun o=>(BN.out.ext (aD.alloc w7 o)).cell 1
  have f3:=fun o o2=>(BN.out.ext ((aD.alloc w7 o).alloc' o2)).frozen 1
  have n3:∀ o o2,((w7.alloc o).alloc o2).cell? ⟨l+1,1,none⟩=some .nilIface:=fun o o2=>(BN.out.ext ((aD.alloc w7 o).alloc' o2)).cell 1
  have I7:=aA (I6.out.ext X7.out)
  have o1:=aA (O1.out.ext (X5.out.trans (X6.out.trans X7.out)));have o2:=aA (O2.out.ext (X5.out.trans (X6.out.trans X7.out)));have o3:=aA (O3.out.ext (X5.out.trans (X6.out.trans X7.out)))
  clear hl c4
  by_cases k1:s.kind=1
  ·have q1:(s.kind == 1)=true:=by simp [k1]
   have K1:=aA k1
   clear k1 f3 n3
   go_wp2_with fail
   go_ret2
   have e1:cI (dN s)=117∧lN (dN s)=119∧∀ v,jO (dN s) v = #[ptr v.l]:=by
    have oI:(dN s).kind=1:=by show s.kind.toNat=1;rw [K1.out];rfl
    exact ⟨by unfold cI;rw [oI];rfl,(mX oI ⟨0,0,0,none,0,none,0,none,0,0,0,0,0,.nilIface⟩).1,fun v=>(mX oI v).2⟩
   have hh:=L1.out
   have h4:=E4.out.size;have h5:=X5.out.size;have h6:=X6.out.size;have h7:=Z7.out;have h8:=HL.out
   have hk:=aL.new w7 119 #[ptr l]
   have Al:=aA (show ∀ g i,jI w.heap.size [(w5.heap.size,0),(w6.heap.size,1),(w7.heap.size+1,0)] g=some i→w.heap.size≤g∧g<w7.heap.size+1 from fun g i hg=>Gd (by simp only [List.mem_cons,List.not_mem_nil,or_false,forall_eq_or_imp,forall_eq];omega) hg)
   have he:=Gb (k:=w7.heap.size) (x2:=0) (x3:=0) (m1:=0) (m2:=.nilIface) (lab:=jI w.heap.size [(w5.heap.size,0),(w6.heap.size,1),(w7.heap.size+1,0)]) HF.out (aD.alloc w7 (.cells #[ptr l] 119)) BL.out BN.out (by rw [e1.2.1,e1.2.2];exact hk) (by omega) I7.out o1.out o2.out o3.out O1.out O2.out O3.out
    (fun g hg Mf=>by unfold jI;rw [if_neg (by omega)];unfold iF;rw [if_pos (by omega)])
    (by unfold jI;rw [if_neg (by omega)];simp only [iF];rw [if_neg (by omega),if_neg (by omega),if_pos (by omega)])
    (by unfold jI;rw [if_neg (by omega)];simp only [iF];rw [if_neg (by omega),if_neg (by omega),if_pos (by omega)])
    (by unfold jI;rw [if_neg (by omega)];simp only [iF];rw [if_neg (by omega),if_neg (by omega),if_pos (by omega)])
    (fun g hg=>by have:=L6.out g hg;have:=U6.out g hg;unfold jI;rw [if_neg (by omega)];simp only [iF];rw [if_neg (by omega),if_pos (by omega)])
    (fun g i hg=>by rw [World.size_alloc];exact (Al.out g i hg).2)
    (fun h=>absurd h (by rw [K1.out];decide)) (fun h=>absurd h (by rw [K1.out];decide)) (fun h=>absurd h (by rw [K1.out];decide))
   rw [e1.1] at he
   refine ⟨(((E4.out.trans X5.out).trans (X6.out.trans X7.out)).alloc' _).setCell (p:=⟨l+1,1,none⟩) (by show w.heap.size≤l+1;omega) _,.inr ⟨trivial,l+1,_,rfl,he,fun g ⟨i,hg⟩=>(Al.out g i hg).1,fun g ⟨i,hg⟩=>?_⟩⟩
   rw [Cl,World.size_alloc]
   exact (Al.out g i hg).2
  by_cases k2:s.kind=2
  ·have q1:(s.kind == 1)=false:=by simp [k1]
   have q2:(s.kind == 2)=true:=by simp [k2]
   have K2:=aA k2
   have Dt:=@run_makeMap Tryz.prog
   clear k1 k2
   go_wp2_with fail
   go_ret2
   have jT:(dN s).kind=2:=by show s.kind.toNat=2;rw [K2.out];rfl
   have e1:cI (dN s)=105:=by unfold cI;rw [jT];rfl
   have e2:lN (dN s)=110:=by unfold lN;rw [jT];rfl
   have hh:=L1.out
   have h4:=E4.out.size;have h5:=X5.out.size;have h6:=X6.out.size;have h7:=Z7.out;have h8:=HL.out
   have hk:=aL.new (w7.alloc (.map #[] 0)) 110 #[ptr l,.map (some w7.heap.size),.map none]
   rw [World.size_alloc] at hk
   have Al:=aA (show ∀ g i,jI w.heap.size [(w5.heap.size,0),(w6.heap.size,1),(w7.heap.size,0),(w7.heap.size+1,4),(w7.heap.size+2,0)] g=some i→w.heap.size≤g∧g<w7.heap.size+2 from fun g i hg=>Gd (by simp only [List.mem_cons,List.not_mem_nil,or_false,forall_eq_or_imp,forall_eq];omega) hg)
   have he:=Gb (k:=w7.heap.size+1) (x2:=0) (x3:=0) (m1:=w7.heap.size) (m2:=.map none) (lab:=jI w.heap.size [(w5.heap.size,0),(w6.heap.size,1),(w7.heap.size,0),(w7.heap.size+1,4),(w7.heap.size+2,0)]) HF.out ((aD.alloc w7 (.map #[] 0)).alloc' (.cells #[ptr l,.map (some w7.heap.size),.map none] 110)) BL.out BN.out (by rw [e2,(eI jT _).2];exact hk) (by omega) I7.out o1.out o2.out o3.out O1.out O2.out O3.out
    (fun g hg Mf=>by unfold jI;rw [if_neg (by omega)];unfold iF;rw [if_pos (by omega)])
    (by unfold jI;rw [if_neg (by omega)];simp only [iF];rw [if_neg (by omega),if_neg (by omega),if_pos (by omega)])
    (by unfold jI;rw [if_neg (by omega)];simp only [iF];rw [if_neg (by omega),if_neg (by omega),if_pos (by omega)])
    (by unfold jI;rw [if_neg (by omega)];simp only [iF];rw [if_neg (by omega),if_neg (by omega),if_neg (by omega),if_neg (by omega),if_pos (by omega)])
    (fun g hg=>by have:=L6.out g hg;have:=U6.out g hg;unfold jI;rw [if_neg (by omega)];simp only [iF];rw [if_neg (by omega),if_pos (by omega)])
    (fun g i hg=>by rw [World.size_alloc,World.size_alloc];exact (Al.out g i hg).2)
    (fun h=>absurd h (by rw [K2.out];decide)) (fun h=>absurd h (by rw [K2.out];decide))
    (fun _=>⟨by unfold jI;rw [if_neg (by omega)];simp only [iF];rw [if_neg (by omega),if_neg (by omega),if_neg (by omega),if_pos (by omega)],(jB.made w7).ext (aD.alloc _ _),rfl⟩)
   rw [e1] at he
   refine ⟨((((E4.out.trans X5.out).trans (X6.out.trans X7.out)).alloc' _).alloc' _).setCell (p:=⟨l+1,1,none⟩) (by show w.heap.size≤l+1;omega) _,.inr ⟨trivial,l+1,_,rfl,he,fun g ⟨i,hg⟩=>(Al.out g i hg).1,fun g ⟨i,hg⟩=>?_⟩⟩
   rw [Cl,World.size_alloc,World.size_alloc]
   exact (Al.out g i hg).2
  ·have q1:(s.kind == 1)=false:=by simp [k1]
   have q2:(s.kind == 2)=false:=by simp [k2]
   have K3:=aA (show s.kind=3 from by have:=HF.out.kind;omega)
   clear k1 k2
   have X8:=aA (aD.alloc w7 (.cells #[.slice sA s.side.length sC] 23))
   have zeb:=aA (qW (width:=s.inn) (most:=s.most) (n:=1) 1 (gs:=[s.side]) (jb (aL.new w7 23 #[.slice sA s.side.length sC]) (o2.out.num.ext X8.out)) (by decide) (Mn HF.out) (Bw HF.out.inn HF.out.most (by simp) (Uz HF.out K3.out)))
   have Z8:=aA (World.size_alloc w7 (.cells #[.slice sA s.side.length sC] 23))
   clear f2 n2 f3 n3
   go_upto_region 8 with ((with_reducible refine zeb.out.mono ?_);rintro e w9 ⟨x2,zk4,rfl,h9,i9,l9,u9⟩;have X9:=aA h9;have I9:=aA i9;have L9:=aA l9;have U9:=aA u9;have c0:=(X8.out.trans h9).cell c0;have c1:=(X8.out.trans h9).cell c1;have c2:=(X8.out.trans h9).cell c2;have c3:=(X8.out.trans h9).cell c3;have c5:=(X8.out.trans h9).cell c5;clear h9 i9 l9 u9)
   have zif:=aA (qW (w:=w9) (width:=(s.side.length:Int)) (most:=s.most) (A:=none) (n:=0) 0 (gs:=[]) ⟨rfl,[],Sl.nil _ _ _,fun k g hg=>by simp at hg⟩ (by decide) (by simp) (Bw ⟨by omega,by have:=I4 HF.out;omega⟩ HF.out.most (by simp) (by simp)))
   go_upto_region 9 with ((with_reducible refine zif.out.mono ?_);rintro e w11 ⟨x3,zkX,rfl,h9,i9,l9,u9⟩;have zfr:=aA h9;have zjD:=aA i9;have zkG:=aA l9;have zjB:=aA u9;clear h9 i9 l9 u9)
   have XX:=aA ((X8.out.trans X9.out).trans zfr.out)
   have zaG:=aA (BN.out.ext XX.out)
   have n0:w11.cell? ⟨l+1,0,none⟩=some (.pointer (some ⟨l,0,none⟩)):=zaG.out.cell 0
   have f2:=fun o=>(zaG.out.ext (aD.alloc w11 o)).frozen 1
   have n2:∀ o,(w11.alloc o).cell? ⟨l+1,1,none⟩=some .nilIface:=fun o=>(zaG.out.ext (aD.alloc w11 o)).cell 1
   clear c0 c1 c2 c3 c5
   go_wp2_with fail
   go_ret2
   have Φ:(dN s).kind=3:=by show s.kind.toNat=3;rw [K3.out];rfl
   have e1:cI (dN s)=91∧lN (dN s)=93∧∀ v,jO (dN s) v = #[ptr v.l,ptr v.x2,ptr v.x3]:=⟨by unfold cI;rw [Φ];rfl,by unfold lN;rw [Φ];rfl,fun v=>by unfold jO;rw [Φ];rfl⟩
   have hh:=L1.out
   have h4:=E4.out.size;have h5:=X5.out.size;have h6:=X6.out.size;have h7:=Z7.out;have h8:=HL.out
   have g8:=Z8.out;have g9:=X9.out.size;have g11:=zfr.out.size
   have hk:=aL.new w11 93 #[ptr l,ptr x2,ptr x3]
   have Al:=aA (show ∀ g i,jI w.heap.size [(w5.heap.size,0),(w6.heap.size,1),(w7.heap.size+1,0),(w9.heap.size,2),(w11.heap.size,3),(w11.heap.size+1,0)] g=some i→w.heap.size≤g∧g<w11.heap.size+1 from fun g i hg=>Gd (by simp only [List.mem_cons,List.not_mem_nil,or_false,forall_eq_or_imp,forall_eq];omega) hg)
   have he:=Gb (k:=w11.heap.size) (x2:=x2) (x3:=x3) (m1:=0) (m2:=.nilIface) (lab:=jI w.heap.size [(w5.heap.size,0),(w6.heap.size,1),(w7.heap.size+1,0),(w9.heap.size,2),(w11.heap.size,3),(w11.heap.size+1,0)]) HF.out (XX.out.trans (aD.alloc w11 (.cells #[ptr l,ptr x2,ptr x3] 93))) BL.out BN.out (by rw [e1.2.1,e1.2.2];exact hk) (by omega) I7.out o1.out o2.out o3.out O1.out O2.out O3.out
    (fun g hg Mf=>by unfold jI;rw [if_neg (by omega)];unfold iF;rw [if_pos (by omega)])
    (by unfold jI;rw [if_neg (by omega)];simp only [iF];rw [if_neg (by omega),if_neg (by omega),if_pos (by omega)])
    (by unfold jI;rw [if_neg (by omega)];simp only [iF];rw [if_neg (by omega),if_neg (by omega),if_pos (by omega)])
    (by unfold jI;rw [if_neg (by omega)];simp only [iF];rw [if_neg (by omega),if_neg (by omega),if_neg (by omega),if_neg (by omega),if_neg (by omega),if_pos (by omega)])
    (fun g hg=>by have:=L6.out g hg;have:=U6.out g hg;unfold jI;rw [if_neg (by omega)];simp only [iF];rw [if_neg (by omega),if_pos (by omega)])
    (fun g i hg=>by rw [World.size_alloc];exact (Al.out g i hg).2)
    (fun _=>((I9.out.ext (zfr.out.trans (aD.alloc _ _))).mono fun g hg=>by
     have:=L9.out g hg;have:=U9.out g hg
     show jI _ _ g=some 2
     unfold jI;rw [if_neg (by omega)];simp only [iF];rw [if_neg (by omega),if_neg (by omega),if_neg (by omega),if_pos (by omega)]))
    (fun _=>by
     have h:=(zjD.out.ext (aD.alloc w11 (.cells #[ptr l,ptr x2,ptr x3] 93))).mono (C:=(jI w.heap.size [(w5.heap.size,0),(w6.heap.size,1),(w7.heap.size+1,0),(w9.heap.size,2),(w11.heap.size,3),(w11.heap.size+1,0)]).own 3) fun g hg=>by
      have:=zkG.out g hg;have:=zjB.out g hg
      show jI _ _ g=some 3
      unfold jI;rw [if_neg (by omega)];simp only [iF];rw [if_neg (by omega),if_neg (by omega),if_neg (by omega),if_neg (by omega),if_pos (by omega)]
     have e3:S3 (dN s) fH =⟨((s.side.length:Nat):Int).toNat,s.most.toNat,[],[],none⟩:=by unfold S3 dN;dsimp only;rw [List.length_map];rfl
     rw [e3]
     exact h)
    (fun h=>absurd h (by rw [K3.out];decide))
   rw [e1.1] at he
   refine ⟨(((E4.out.trans X5.out).trans (X6.out.trans (X7.out.trans XX.out))).alloc' _).setCell (p:=⟨l+1,1,none⟩) (by show w.heap.size≤l+1;omega) _,.inr ⟨trivial,l+1,_,rfl,he,fun g ⟨i,hg⟩=>(Al.out g i hg).1,fun g ⟨i,hg⟩=>?_⟩⟩
   rw [Cl,World.size_alloc]
   exact (Al.out g i hg).2
end Go.Proofs.YtahdiiaadjdmcaaGreat
