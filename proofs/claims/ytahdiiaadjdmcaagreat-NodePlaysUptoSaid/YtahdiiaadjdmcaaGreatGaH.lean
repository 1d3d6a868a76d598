import Derived.Test.YtahdiiaadjdmcaaGreatGaA
import Derived.Laws.BitsAllLaws
import Derived.IntWalk
import Derived.Deep.Cut
import Derived.WalkMore
import Derived.Lib.SliceRun
namespace Go.Proofs.YtahdiiaadjdmcaaGreat
open Go.RowKit
def Hd:Option Nat→Int
 | some i=>(i:Int)
 | none=>-1
structure fO (w:World) (B:Nat→Prop) (x tb most size marks probes:Nat) (T:List Pl) (Ks:List Value):Prop where
 blk:aL w x 189 (zhl most size marks probes tb T.length)
 tab:jH w B tb T Ks
 pow:∃ k,T.length=2 ^ k∧k≤40
 inB:B x
theorem Kz (a b:Nat) (ha:a<9223372036854775808) (hb:b<9223372036854775808):bits .and .i64 (a:Int) (b:Int)=((a &&& b:Nat):Int):=by
 have hx:a &&& b≤a:=Nat.and_le_left
 have h1:(BitVec.ofInt 64 (a:Int)).toNat=a:=by
  rw [BitVec.ofInt_natCast,BitVec.toNat_ofNat];exact Nat.mod_eq_of_lt (by omega)
 have h2:(BitVec.ofInt 64 (b:Int)).toNat=b:=by
  rw [BitVec.ofInt_natCast,BitVec.toNat_ofNat];exact Nat.mod_eq_of_lt (by omega)
 show IntKind.i64.wrap ((BitVec.ofInt 64 (a:Int) &&& BitVec.ofInt 64 (b:Int)).toNat:Int)=_
 rw [BitVec.toNat_and,h1,h2];exact IntWalk.i64_in _ (by omega)
theorem Rf {n k:Nat} (a:Nat) (h:n=2 ^ k):a &&& (n - 1)=a % n:=by rw [h];exact Nat.and_two_pow_sub_one_eq_mod _ _
theorem Zk {n k:Nat} (h:Nat) (hp:n=2 ^ k) (hk:k≤40) (hh:h<18446744073709551616) :
 IntKind.i64.wrap (bits BinOp.and IntKind.u64 (h:Int) (IntKind.u64.wrap (IntKind.i64.wrap ((n:Int) - 1))))=((h % n:Nat):Int):=by
 have h1:0<n:=by rw [hp];exact Nat.two_pow_pos k
 have h2:n≤1099511627776:=by rw [hp];exact Nat.pow_le_pow_right (by omega) hk
 have h3:h % n<n:=Nat.mod_lt _ h1
 rw [show IntKind.i64.wrap ((n:Int) - 1)=((n - 1:Nat):Int) by rw [IntWalk.i64_in _ (by omega)];omega,IntKind.wrap_u64,show ((n - 1:Nat):Int) % 18446744073709551616=((n - 1:Nat):Int) by omega,u64_and_nat _ _ hh (by omega),Rf h hp]
 exact IntWalk.i64_in _ (by omega)
theorem y_ {n k:Nat} (i:Nat) (hp:n=2 ^ k) (hk:k≤40) (hi:i<n) :
 bits BinOp.and IntKind.i64 ((i:Int)+1) ((n:Int) - 1)=(((i+1) % n:Nat):Int):=by
 have h2:n≤1099511627776:=by rw [hp];exact Nat.pow_le_pow_right (by omega) hk
 rw [show ((n:Int) - 1)=((n - 1:Nat):Int) by omega,show ((i:Int)+1)=((i+1:Nat):Int) by omega,Kz _ _ (by omega) (by omega),Rf _ hp]
set_option maxRecDepth 100000 in
theorem mN (key:List UInt8) (A:Option Addr) (n c:Nat) (w:World) (B:Nat→Prop) (x tb most size marks probes:Nat) (T:List Pl) (Ks:List Value) (hI:fO w B x tb most size marks probes T Ks) (hk:eK w A n key) (fI:∀ p∈T,p.st≤2) (hn:n≤4611686018427387904) :
 Calls Tryz.prog 103 #[.pointer (some ⟨x,0,none⟩),.slice A n c] w fun e w'=>e=.returned (.tuple #[.int .i64 (Hd (vW T key).1),.int .i64 (Hd (vW T key).2)])∧aD w w':=by
 have a4:w.cell? ⟨x,4,none⟩=some (.slice (some ⟨tb,0,none⟩) T.length T.length):=hI.blk.cell 4
 have HH:=aA (fun w1 (aT:aD w w1)=>Xb key A n c w1 (hk.ext aT) hn)
 obtain ⟨pw,iD,oK⟩:=hI.pow
 have zgD:=Zk (uX key) iD oK (Zp key)
 have Yz:0<T.length:=by rw [iD];exact Nat.two_pow_pos pw
 have Dk:T.length≤1099511627776:=by rw [iD];exact Nat.pow_le_pow_right (by omega) oK
 have L_:uX key % T.length=gZ T key 0:=by unfold gZ;rw [Nat.add_zero,Nat.mod_mod]
 rw [L_] at zgD
 have Cf:=aA (fun (i:Nat) (hi:i<T.length)=>y_ i iD oK hi)
 have HI:=aA hI;have HK:=aA hk;have nC:=aA fI;clear hI hk fI iD oK L_
 go_enter Tryz.func103,Tryz.ntmps103
 go_wp2_with fail
 go_step3
 go_upto_region 2 with fail
 have a4:=aB a4
 refine aC 12 (by kernel_rfl) (by kernel_rfl) (by kernel_rfl) ?_
 iterate 12
  refine aK (by kernel_rfl) (by kernel_rfl) ?_
  apply Exists.intro
  refine ⟨fun w1 aT=>?_,fun K hK=>?_⟩
  ·go_simp;first | done | rfl | exact ((HH.out w1 aT).mono fun _ _ h=>⟨h.1,h.2 ▸ aD.refl _⟩)
  go_simp;refine hK _ _ ?_;clear hK K
 refine aH ⟨rfl,by kernel_rfl,fun wq hwq=>?_⟩
 simp only [bL]
 refine wpList_nil ?_
 have zc5:=aA hwq;clear hwq a4
 have a4:wq.cell? ⟨x,4,none⟩=some (.slice (some ⟨tb,0,none⟩) T.length T.length):=(HI.out.blk.ext zc5.out).cell 4
 go_wp2_with fail
 go_step3
 go_wp2_with fail
 go_loopw [5,6,24] (fun s5 s6 s24 w'=>∃ (d:Nat) (fr:Option Nat),d≤T.length∧s24=.int .i64 d∧s6=.int .i64 (gZ T key d:Nat)∧s5=.int .i64 (Hd fr)∧Hid (vW T key=qS T key (T.length - d) (gZ T key d) fr)∧Hid (aD w w')) (fun _ _ s24 _=>T.length - (intOf s24).toNat)
 case atStart=>exact ⟨0,none,by omega,rfl,rfl,rfl,rfl,zc5.out⟩
 case round=>
  obtain ⟨d,fr,hd,rfl,rfl,rfl,hf,hX⟩:=hrel
  have a4:wr.cell? ⟨x,4,none⟩=some (.slice (some ⟨tb,0,none⟩) T.length T.length):=(HI.out.blk.ext hX.out).cell 4
  by_cases h:d<T.length
  ·obtain ⟨p,hp⟩:=Kk key d Yz
   have zjW:=Rd key d Yz
   have fI:=nC.out p (List.mem_of_getElem? hp)
   obtain ⟨A5,n5,c5,b0,b1,_,hK5,_⟩:=(HI.out.tab.ext hX.out).at_ hp
   obtain ⟨st,pk,pn⟩:=p
   have Fh:=aA (show qS T key (T.length - d) (gZ T key d) fr=if st=0 then (none,fr.or (some (gZ T key d))) else if st=2 then qS T key (T.length - (d+1)) (gZ T key (d+1)) (fr.or (some (gZ T key d))) else if pk=key then (some (gZ T key d),some (gZ T key d)) else qS T key (T.length - (d+1)) (gZ T key (d+1)) fr by
    rw [show T.length - d=(T.length - (d+1))+1 by omega,qS,hp,rQ])
   have rT:=Cf.out (gZ T key d) zjW
   rw [← rQ] at rT
   have Sm:=aA (kq (w:=wr) hK5 (HK.out.ext hX.out) c5 c)
   dsimp only at fI b0 hK5
   clear hp hK5
   generalize gZ T key d=pd at *
   obtain rfl | rfl | rfl:st=0∨st=1∨st=2:=by omega
   ·have b0:wr.cell? ⟨tb,pd*3,none⟩=some (.int .u8 0):=b0
    cases fr with
    |none=>
     simp only [Hd]
     go_wp2_with fail
     go_ret2
     exact ⟨by rw [hf.out,Fh.out];rfl,hX.out⟩
    |some f=>
     simp only [Hd]
     have zjG:¬ (f:Int)<0:=by omega
     go_wp2_with fail
     go_ret2
     exact ⟨by rw [hf.out,Fh.out];rfl,hX.out⟩
   ·have b0:wr.cell? ⟨tb,pd*3,none⟩=some (.int .u8 1):=b0
    by_cases hk:pk=key
    ·have yf:=aA hk;clear hk
     go_wp2_with fail
     refine Sm.out.mono ?_
     rintro e w1 ⟨rfl,rfl⟩
     rw [decide_eq_true yf.out]
     go_wp2_with fail
     rw [Exit.noGoto_ret]
     go_ret2
     exact ⟨by rw [hf.out,Fh.out];simp [yf.out,Hd],hX.out⟩
    ·have yf:=aA hk;clear hk
     go_wp2_with fail
     refine Sm.out.mono ?_
     rintro e w1 ⟨rfl,rfl⟩
     rw [decide_eq_false yf.out]
     go_wp2_with fail
     go_roundw
     case rel=>exact ⟨d+1,fr,by omega,by go_num,rfl,rfl,by rw [Hid,hf.out,Fh.out];simp [yf.out],hX.out⟩
     case measure=>simp [intOf];omega
   ·have b0:wr.cell? ⟨tb,pd*3,none⟩=some (.int .u8 2):=b0
    cases fr with
    |none=>
     simp only [Hd]
     go_wp2_with fail
     go_roundw
     case rel=>exact ⟨d+1,some pd,by omega,by go_num,rfl,rfl,by rw [Hid,hf.out,Fh.out];rfl,hX.out⟩
     case measure=>simp [intOf];omega
    |some f=>
     simp only [Hd]
     have zjG:¬ (f:Int)<0:=by omega
     go_wp2_with fail
     go_roundw
     case rel=>exact ⟨d+1,some f,by omega,by go_num,rfl,rfl,by rw [Hid,hf.out,Fh.out];rfl,hX.out⟩
     case measure=>simp [intOf];omega
  ·have zfT:T.length - d=0:=by omega
   go_wp2_with fail
   rw [Exit.noGoto_ret]
   go_ret2
   exact ⟨by rw [hf.out,zfT];rfl,hX.out⟩
structure E9 (w:World) (B:Nat→Prop) (x most probes:Nat) (E:List (List UInt8 × Int)):Prop where
 at_:∃ (tb:Nat) (T:List Pl) (Ks:List Value),fO w B x tb most E.length (bM T) probes T Ks∧kQ T∧List.Perm (ents T) E∧4*(E.length+bM T)≤3*T.length∧T.length≤4*most+8∧(∀ p∈T,p.key.length≤4096)∧x≠tb
 most:E.length≤most∧most≤1048576
 old:∀ b,B b→b<w.heap.size
theorem Wv:(Tryz.prog.info? 194).map (fun i=>(i.zero,i.size,i.bytes))=some (some (.agg #[.int .u8 0,.slice none 0 0,.int .i64 0]),3,40):=by kernel_rfl
theorem zW:∀ n:Nat,tR (List.replicate n ⟨0,[],0⟩) (List.replicate n (.slice none 0 0))=(List.replicate n [Value.int .u8 0,Value.slice none 0 0,Value.int .i64 0]).flatten
 | 0=>rfl
 |n+1=>by
  simp only [List.replicate_succ,tR,List.flatten_cons,zW n]
  rfl
theorem Yf (n:Nat):madeCells #[.int .u8 0,.slice none 0 0,.int .i64 0] (n*3)=(tR (List.replicate n ⟨0,[],0⟩) (List.replicate n (.slice none 0 0))).toArray:=by
 rw [zW]
 have h:∀ m,(madeCells #[Value.int .u8 0,Value.slice none 0 0,Value.int .i64 0] (m*3)).toList=(List.replicate m [Value.int .u8 0,Value.slice none 0 0,Value.int .i64 0]).flatten:=by
  intro m
  induction m with
  | zero=>simp [madeCells]
  |succ m ih=>
   rw [List.replicate_succ',List.flatten_append,← ih]
   unfold madeCells
   simp only [Array.toList_map,Array.toList_range,Nat.succ_mul,List.range_succ,List.map_append,List.map_cons,List.map_nil]
   simp [List.append_assoc,Nat.add_mod]
 rw [← h n]
theorem jH.made {w:World} {tb n:Nat} (h:aL w tb 194 (madeCells #[.int .u8 0,.slice none 0 0,.int .i64 0] (n*3))) {B:Nat→Prop} (hB:B tb):jH w B tb (List.replicate n ⟨0,[],0⟩) (List.replicate n (.slice none 0 0)):=by
 refine ⟨by rw [← Yf];exact h,by simp,fun i p K h1 h2=>?_,hB⟩
 rw [List.getElem?_replicate] at h1 h2
 split at h1
 ·rename_i hi
  rw [if_pos hi] at h2
  injection h1 with h1
  injection h2 with h2
  subst h1;subst h2
  exact ⟨none,0,0,rfl,World.ownsRow_nil _ _ _ _,fun a ha=>by cases ha⟩
 ·cases h1
theorem jk (most:Nat) (w:World) (h1:1≤most) (h2:most≤1048576) :
 Calls Tryz.prog 93 #[.int .i64 (most:Int)] w fun e w'=>∃ x,e=.returned (.tuple #[.pointer (some ⟨x,0,none⟩),.int .i64 0])∧E9 w' (fun b=>w.heap.size≤b∧b<w'.heap.size) x most 0 []∧aD w w':=by
 obtain ⟨i0,eQ,hz0,hz1,eO⟩:=info_parts Wv
 have uE:=fun (w:World)=>run_make (P:=Tryz.prog) (w:=w) 187 194 i0 _ Tryz.underlying187 eQ hz0 .i64 .i64 8 8 (by omega) (by omega) (by rw [eO];omega) (by omega)
 rw [hz1] at uE
 have nM:¬ (most:Int)<1:=by omega
 have pT:¬ (1048576:Int)<(most:Int):=by omega
 clear eQ hz0 hz1 eO
 go_enter Tryz.func93,Tryz.ntmps93
 go_wp2_with fail
 go_ret2
 clear uE nM pT
 have hT:=Cg 8 (by omega)
 have hx:=aL.new (w.alloc (.cells (madeCells #[.int .u8 0,.slice none 0 0,.int .i64 0] 24) 194)) 189 (zhl most 0 0 0 w.heap.size 8)
 have ht:=(aL.new w 194 (madeCells #[.int .u8 0,.slice none 0 0,.int .i64 0] 24)).ext (aD.alloc _ (.cells (zhl most 0 0 0 w.heap.size 8) 189))
 rw [World.size_alloc] at hx
 refine ⟨_,rfl,⟨⟨w.heap.size,List.replicate 8 ⟨0,[],0⟩,List.replicate 8 (.slice none 0 0),⟨?_,jH.made (n:=8) ht ?_,⟨3,by simp,by omega⟩,?_⟩,hT.1,by rw [hT.2.1],?_,?_,?_,by omega⟩,⟨by simp,h2⟩,fun b h=>h.2⟩,(aD.alloc _ _).alloc' _⟩
 ·rw [hT.2.2,List.length_replicate];exact hx
 ·exact ⟨Nat.le_refl _,by simp;omega⟩
 ·exact ⟨by omega,by simp⟩
 ·rw [hT.2.2];simp
 ·simp
 ·intro p hp
  rw [(List.mem_replicate.1 hp).2];simp
theorem vH (w:World) (p:Addr) (u:Value):aF (fun g=>g=p.block) w (w.setCell p u):=aF.setCell (B:=fun g=>g=p.block) (aF.refl _ w) (.inl rfl) u
theorem jH.setX {w:World} {B:Nat→Prop} {tb x:Nat} {T:List Pl} {Ks:List Value} {cs:Array Value} (h:jH w B tb T Ks) (hb:aL w x 189 cs) (aZ:x≠tb) (j:Nat) (u:Value):jH (w.setCell ⟨x,j,none⟩ u) B tb T Ks:=
 ⟨h.blk.far (p:=⟨x,j,none⟩) (Ne.symm aZ) u,h.len,fun i p K h1 h2=>(h.keys i p K h1 h2).keep (vH w _ u) fun A n c e a ha=>(h.keys i p K h1 h2).ne hb (by decide) A n c e a ha,h.inB⟩
theorem fO.ext {w w':World} {B:Nat→Prop} {x tb most size marks probes:Nat} {T:List Pl} {Ks:List Value} (h:fO w B x tb most size marks probes T Ks) (hw:aD w w'):fO w' B x tb most size marks probes T Ks:=
 ⟨h.blk.ext hw,h.tab.ext hw,h.pow,h.inB⟩
theorem fO.setSize {w:World} {B:Nat→Prop} {x tb most size marks probes:Nat} {T:List Pl} {Ks:List Value} (h:fO w B x tb most size marks probes T Ks) (aZ:x≠tb) (v:Nat) (u:Int) (hu:u=(v:Int)):fO (w.setCell ⟨x,1,none⟩ (.int .i64 u)) B x tb most v marks probes T Ks:=by
 subst hu
 exact ⟨h.blk.set_ 1 _,h.tab.setX h.blk aZ 1 _,h.pow,h.inB⟩
theorem fO.setMarks {w:World} {B:Nat→Prop} {x tb most size marks probes:Nat} {T:List Pl} {Ks:List Value} (h:fO w B x tb most size marks probes T Ks) (aZ:x≠tb) (v:Nat) (u:Int) (hu:u=(v:Int)):fO (w.setCell ⟨x,2,none⟩ (.int .i64 u)) B x tb most size v probes T Ks:=by
 subst hu
 exact ⟨h.blk.set_ 2 _,h.tab.setX h.blk aZ 2 _,h.pow,h.inB⟩
theorem fO.setProbes {w:World} {B:Nat→Prop} {x tb most size marks probes:Nat} {T:List Pl} {Ks:List Value} (h:fO w B x tb most size marks probes T Ks) (aZ:x≠tb) (v:Nat) (u:Int) (hu:u=(v:Int)):fO (w.setCell ⟨x,3,none⟩ (.int .i64 u)) B x tb most size marks v T Ks:=by
 subst hu
 exact ⟨h.blk.set_ 3 _,h.tab.setX h.blk aZ 3 _,h.pow,h.inB⟩
def dR (B:Nat→Prop) (A:Option Addr):Prop:=∀ a,A=some a→¬ B a.block
theorem fO.probe {w:World} {B:Nat→Prop} {x tb most size marks probes:Nat} {T:List Pl} {Ks:List Value} (h:fO w B x tb most size marks probes T Ks) (aZ:x≠tb):fO (w.setCell ⟨x,3,none⟩ (.int .i64 ((probes:Int)+1))) B x tb most size marks (probes+1) T Ks:=
 h.setProbes aZ _ _ (by omega)
def nX (E:List (List UInt8 × Int)) (key:List UInt8) (r:Option Int):Prop:=(∀ v,r=some v→(key,v)∈E)∧(r=none→∀ v,(key,v)∉E)
set_option maxRecDepth 100000 in
theorem Re {w:World} {B:Nat→Prop} {x most probes:Nat} {E:List (List UInt8 × Int)} (h:E9 w B x most probes E) (hp:probes≤4611686018427387904) (key:List UInt8) (A:Option Addr) (n c:Nat) (hk:eK w A n key) (ha:dR B A) (hn:n≤4611686018427387904) :
 Calls Tryz.prog 85 #[.pointer (some ⟨x,0,none⟩),.slice A n c] w fun e w'=>∃ r:Option Int,e=.returned (.tuple #[.int .i64 (r.getD 0),.bool r.isSome])∧nX E key r∧E9 w' B x most (probes+1) E∧aF B w w':=by
 obtain ⟨tb,T,Ks,hI,hG,hE,h1,h2,h3,aZ⟩:=h.at_
 have Ui:eK (w.setCell ⟨x,3,none⟩ (.int .i64 ((probes:Int)+1))) A n key:=(vH w _ _).key hk fun a he hx=>ha a he (by rw [hx];exact hI.inB)
 have HF:=aA (mN key A n c _ B x tb most _ _ _ T Ks (hI.probe aZ) Ui hG.st hn)
 have HI:=aA (hI.probe aZ)
 have a3:w.cell? ⟨x,3,none⟩=some (.int .i64 probes):=hI.blk.cell 3
 have f3:w.frozen? ⟨x,3,none⟩=false:=hI.blk.frozen 3
 have HC:=aA (show aF B w (w.setCell ⟨x,3,none⟩ (.int .i64 ((probes:Int)+1))) from (aF.refl _ _).setCell (.inl hI.inB) _)
 have hm:=h.most
 have HO:=aA h.old
 have HE:=aA hE
 rcases mB hG key with ⟨i,p,hf,hpi,iD,yO⟩ | ⟨f,hf,hfree,j8⟩
 ·rw [hf] at HF
  have HR:=aA (show nX E key (some p.num) from ⟨fun v hv=>by injection hv with hv;subst hv;exact hE.mem_iff.1 (iO.2 ⟨i,p,hpi,iD,yO,rfl⟩),fun hv=>by cases hv⟩)
  have HP:=aA hpi
  have j0:i<T.length:=(List.getElem?_eq_some_iff.1 hpi).1
  have HW:=aA (And.intro hG (And.intro h1 (And.intro h2 (And.intro h3 aZ))))
  clear h hk Ui hI hE hf hpi iD yO hG h1 h2 h3 ha aZ
  go_enter Tryz.func85,Tryz.ntmps85
  go_wp2_with fail
  refine HF.out.mono ?_
  rintro e w1 ⟨rfl,x1⟩
  have X1:=aA x1
  obtain ⟨_,_,_,_,_,b2,_⟩:=(HI.out.ext x1).tab.at_ HP.out
  have a4:w1.cell? ⟨x,4,none⟩=some (.slice (some ⟨tb,0,none⟩) T.length T.length):=(HI.out.ext x1).blk.cell 4
  clear x1 a3 f3
  simp only [Hd]
  go_wp2_with fail
  go_ret2
  have hC:=HC.out.trans' (aF.of X1.out)
  exact ⟨some p.num,rfl,HR.out,⟨⟨tb,T,Ks,HI.out.ext X1.out,HW.out.1,HE.out,HW.out.2.1,HW.out.2.2.1,HW.out.2.2.2.1,HW.out.2.2.2.2⟩,hm,fun b hb=>Nat.lt_of_lt_of_le (HO.out b hb) hC.size⟩,hC⟩
 ·rw [hf] at HF
  have HR:=aA (show nX E key none from ⟨fun v hv=>(by cases hv),fun _ v hv=>(iO.1 (hE.mem_iff.2 hv)).elim fun i hi=>hi.elim fun p hp=>j8 i p hp.1 hp.2.1 hp.2.2.1⟩)
  have HW:=aA (And.intro hG (And.intro h1 (And.intro h2 (And.intro h3 aZ))))
  clear h hk Ui hI hE hf hfree j8 hG h1 h2 h3 ha aZ
  go_enter Tryz.func85,Tryz.ntmps85
  go_wp2_with fail
  refine HF.out.mono ?_
  rintro e w1 ⟨rfl,x1⟩
  have X1:=aA x1
  clear x1 a3 f3
  simp only [Hd]
  go_wp2_with fail
  go_ret2
  have hC:=HC.out.trans' (aF.of X1.out)
  exact ⟨none,rfl,HR.out,⟨⟨tb,T,Ks,HI.out.ext X1.out,HW.out.1,HE.out,HW.out.2.1,HW.out.2.2.1,HW.out.2.2.2.1,HW.out.2.2.2.2⟩,hm,fun b hb=>Nat.lt_of_lt_of_le (HO.out b hb) hC.size⟩,hC⟩
theorem u5 {α:Type}:∀ (l m:List α) (i:Nat) (v:α),(l ++ m).set (l.length+i) v=l ++ m.set i v
 | [],m,i,v=>by simp
 |x :: l,m,i,v=>by
  rw [List.cons_append,List.length_cons,show l.length+1+i=(l.length+i)+1 by omega,List.set_cons_succ,u5 l m i v];rfl
theorem z7:∀ (T:List Pl) (Ks:List Value) (i:Nat) (p:Pl) (K:Value),Ks.length=T.length→i<T.length→
 tR (T.set i p) (Ks.set i K)=(((tR T Ks).set (i*3) (.int .u8 (p.st:Int))).set (i*3+1) K).set (i*3+2) (.int .i64 p.num)
 | [],_,_,_,_,_,h=>by simp at h
 | _ :: _,[],_,_,_,h,_=>by simp at h
 | q :: T,L :: Ks,0,p,K,_,_=>rfl
 |q :: T,L :: Ks,i+1,p,K,h1,h2=>by
  simp only [List.set_cons_succ,tR]
  rw [z7 T Ks i p K (by simpa using h1) (by simpa using h2)]
  have e:(Ye q L).length=3:=rfl
  rw [show (i+1)*3=(Ye q L).length+i*3 by rw [e];omega,show (Ye q L).length+i*3+1=(Ye q L).length+(i*3+1) by omega,show (Ye q L).length+i*3+2=(Ye q L).length+(i*3+2) by omega,u5,u5,u5]
def yF (w:World) (tb i:Nat) (p:Pl) (K:Value):World:=((w.setCell ⟨tb,i*3,none⟩ (.int .u8 (p.st:Int))).setCell ⟨tb,i*3+1,none⟩ K).setCell ⟨tb,i*3+2,none⟩ (.int .i64 p.num)
theorem rP (w:World) (tb i:Nat) (p:Pl) (K:Value):aF (fun g=>g=tb) w (yF w tb i p K):=
 aF.setCell (B:=fun g=>g=tb) (aF.setCell (B:=fun g=>g=tb) (aF.setCell (B:=fun g=>g=tb) (aF.refl _ w) (p:=⟨tb,i*3,none⟩) (.inl rfl) _) (p:=⟨tb,i*3+1,none⟩) (.inl rfl) _) (p:=⟨tb,i*3+2,none⟩) (.inl rfl) _
theorem jH.put {w:World} {B:Nat→Prop} {tb:Nat} {T:List Pl} {Ks:List Value} (h:jH w B tb T Ks) {i:Nat} (hi:i<T.length) (p:Pl) (K:Value) (hK:bF w B K p.key):jH (yF w tb i p K) B tb (T.set i p) (Ks.set i K):=by
 have hc:=rP w tb i p K
 refine ⟨?_,by rw [List.length_set,List.length_set];exact h.len,fun j q L h1 h2=>?_,h.inB⟩
 ·rw [z7 T Ks i p K h.len hi]
  have:=((h.blk.set_ (i*3) (.int .u8 (p.st:Int))).set_ (i*3+1) K).set_ (i*3+2) (.int .i64 p.num)
  simpa [yF] using this
 ·have xU:∀ {L:Value} {k:List UInt8},bF w B L k→bF (yF w tb i p K) B L k:=fun ho=>ho.keep hc fun A n c e a ha=>ho.ne h.blk (by decide) A n c e a ha
  by_cases hj:i=j
  ·subst hj
   rw [List.getElem?_set_self hi] at h1
   rw [List.getElem?_set_self (by rw [h.len];exact hi)] at h2
   injection h1 with h1
   injection h2 with h2
   subst h1;subst h2
   exact xU hK
  ·rw [List.getElem?_set_ne hj] at h1 h2
   exact xU (h.keys j q L h1 h2)
theorem bF.nil (w:World) (B:Nat→Prop):bF w B (.slice none 0 0) []:=⟨none,0,0,rfl,World.ownsRow_nil _ _ _ _,fun a ha=>by cases ha⟩
theorem fO.put {w:World} {B:Nat→Prop} {x tb most size marks probes:Nat} {T:List Pl} {Ks:List Value} (h:fO w B x tb most size marks probes T Ks) (aZ:x≠tb) {i:Nat} (hi:i<T.length) (p:Pl) (K:Value) (hK:bF w B K p.key):fO (yF w tb i p K) B x tb most size marks probes (T.set i p) (Ks.set i K):=by
 refine ⟨?_,h.tab.put hi p K hK,by rw [List.length_set];exact h.pow,h.inB⟩
 rw [List.length_set]
 exact (rP w tb i p K).blk h.blk aZ
set_option maxRecDepth 100000 in
theorem Ap {w:World} {B:Nat→Prop} {x most probes:Nat} {E:List (List UInt8 × Int)} (h:E9 w B x most probes E) (hp:probes≤4611686018427387904) (key:List UInt8) (A:Option Addr) (n c:Nat) (hk:eK w A n key) (ha:dR B A) (hn:n≤4611686018427387904) :
 Calls Tryz.prog 145 #[.pointer (some ⟨x,0,none⟩),.slice A n c] w fun e w'=>∃ r:Option Int,e=.returned (.tuple #[.int .i64 (r.getD 0),.bool r.isSome])∧nX E key r∧
  (∃ E',(match r with | some v=>List.Perm E ((key,v) :: E') | none=>E'=E)∧E9 w' B x most (probes+1) E')∧aF B w w':=by
 obtain ⟨tb,T,Ks,hI,hG,hE,h1,h2,h3,aZ⟩:=h.at_
 have Ui:eK (w.setCell ⟨x,3,none⟩ (.int .i64 ((probes:Int)+1))) A n key:=(vH w _ _).key hk fun a he hx=>ha a he (by rw [hx];exact hI.inB)
 have HF:=aA (mN key A n c _ B x tb most _ _ _ T Ks (hI.probe aZ) Ui hG.st hn)
 have HI:=aA (hI.probe aZ)
 have a3:w.cell? ⟨x,3,none⟩=some (.int .i64 probes):=hI.blk.cell 3
 have f3:w.frozen? ⟨x,3,none⟩=false:=hI.blk.frozen 3
 have HC:=aA (show aF B w (w.setCell ⟨x,3,none⟩ (.int .i64 ((probes:Int)+1))) from (aF.refl _ _).setCell (.inl hI.inB) _)
 have hm:=h.most
 have HO:=aA h.old
 have HE:=aA hE
 rcases mB hG key with ⟨i,p,hf,hpi,iD,yO⟩ | ⟨f,hf,hfree,j8⟩
 ·rw [hf] at HF
  have HR:=aA (show nX E key (some p.num) from ⟨fun v hv=>by injection hv with hv;subst hv;exact hE.mem_iff.1 (iO.2 ⟨i,p,hpi,iD,yO,rfl⟩),fun hv=>by cases hv⟩)
  have HP:=aA hpi
  have j0:i<T.length:=(List.getElem?_eq_some_iff.1 hpi).1
  obtain ⟨hG2,R,r1,r2,r3⟩:=Ev (p:=⟨2,[],0⟩) hG hpi iD (.inr rfl)
  have zae:List.Perm E ((key,p.num) :: R):=yO ▸ (hE.symm.trans r1)
  have qb:=zae.length_eq
  rw [List.length_cons] at qb
  have r3:bM (T.set i ⟨2,[],0⟩)=bM T+1:=r3
  have i4:=hG.room
  have hW:kQ (T.set i ⟨2,[],0⟩)∧List.Perm (ents (T.set i ⟨2,[],0⟩)) R∧4*(R.length+bM (T.set i ⟨2,[],0⟩))≤3*(T.set i ⟨2,[],0⟩).length∧(T.set i ⟨2,[],0⟩).length≤4*most+8∧(∀ p∈T.set i ⟨2,[],0⟩,p.key.length≤4096)∧x≠tb:=
   ⟨hG2,r2,by rw [r3,List.length_set];omega,by rw [List.length_set];exact h2,fun q hq=>by
    rcases List.mem_or_eq_of_mem_set hq with hq | rfl
    ·exact h3 q hq
    ·exact Nat.zero_le _,aZ⟩
  have HW:=aA (And.intro hW (And.intro zae r3))
  have Ou:=aA (And.intro hI.inB hI.tab.inB)
  have nD:bM T≤T.length:=by omega
  have zja:T.length≤4194400:=by omega
  have HEl:=aA qb
  clear h hk Ui hI hE hf hpi iD yO hG h1 h2 h3 ha aZ hG2 r1 r2 r3 hW zae i4 qb
  go_enter Tryz.func145,Tryz.ntmps145
  go_wp2_with fail
  refine HF.out.mono ?_
  rintro e w1 ⟨rfl,x1⟩
  have X1:=aA x1
  have Ct:=aA (HI.out.ext x1)
  obtain ⟨A5,n5,c5,b0,b1,b2,_⟩:=Ct.out.tab.at_ HP.out
  have a4:w1.cell? ⟨x,4,none⟩=some (.slice (some ⟨tb,0,none⟩) T.length T.length):=Ct.out.blk.cell 4
  have g0:w1.frozen? ⟨tb,i*3,none⟩=false:=Ct.out.tab.blk.frozen _
  have g1:w1.frozen? ⟨tb,i*3+1,none⟩=false:=Ct.out.tab.blk.frozen _
  have g2:w1.frozen? ⟨tb,i*3+2,none⟩=false:=Ct.out.tab.blk.frozen _
  clear x1 a3 f3
  simp only [Hd]
  have eQ:¬ (i:Int)<0:=by omega
  go_upto_region 7 with fail
  have Cu:=aA (show fO (((w1.setCell ⟨tb,i*3,none⟩ (.int .u8 2)).setCell ⟨tb,i*3+1,none⟩ (.slice none 0 0)).setCell ⟨tb,i*3+2,none⟩ (.int .i64 0)) B x tb most E.length (bM T) (probes+1) (T.set i ⟨2,[],0⟩) (Ks.set i (.slice none 0 0)) from Ct.out.put HW.out.1.2.2.2.2.2 j0 ⟨2,[],0⟩ _ (bF.nil _ _))
  have ze1:=aA (show aF B w (((w1.setCell ⟨tb,i*3,none⟩ (.int .u8 2)).setCell ⟨tb,i*3+1,none⟩ (.slice none 0 0)).setCell ⟨tb,i*3+2,none⟩ (.int .i64 0)) from (((HC.out.trans' (aF.of X1.out)).setCell (.inl Ou.out.2) _).setCell (.inl Ou.out.2) _).setCell (.inl Ou.out.2) _)
  generalize hW2:((w1.setCell ⟨tb,i*3,none⟩ (.int .u8 2)).setCell ⟨tb,i*3+1,none⟩ (.slice none 0 0)).setCell ⟨tb,i*3+2,none⟩ (.int .i64 0)=W2 at *
  clear hW2 b0 b1 b2 a4 g0 g1 g2
  have a1:W2.cell? ⟨x,1,none⟩=some (.int .i64 E.length):=Cu.out.blk.cell 1
  have f1:W2.frozen? ⟨x,1,none⟩=false:=Cu.out.blk.frozen 1
  have Og:=HEl.out
  go_upto_region 8 with fail
  have φ:=aA (Cu.out.setSize HW.out.1.2.2.2.2.2 R.length (R.length:Int) rfl)
  have qu:=aA (ze1.out.setCell (p:=⟨x,1,none⟩) (.inl Ou.out.1) (.int .i64 (R.length:Int)))
  generalize hW3:W2.setCell ⟨x,1,none⟩ (.int .i64 (R.length:Int))=W3 at *
  clear hW3 a1 f1
  have a2:W3.cell? ⟨x,2,none⟩=some (.int .i64 (bM T)):=φ.out.blk.cell 2
  have f2:W3.frozen? ⟨x,2,none⟩=false:=φ.out.blk.frozen 2
  go_wp2_with fail
  go_ret2
  have zjP:=φ.out.setMarks HW.out.1.2.2.2.2.2 (bM (T.set i ⟨2,[],0⟩)) ((bM T:Int)+1) (by rw [HW.out.2.2];omega)
  have zcx:=qu.out.setCell (p:=⟨x,2,none⟩) (.inl Ou.out.1) (.int .i64 ((bM T:Int)+1))
  exact ⟨some p.num,rfl,HR.out,⟨R,HW.out.2.1,⟨⟨tb,_,_,zjP,HW.out.1.1,HW.out.1.2.1,HW.out.1.2.2.1,HW.out.1.2.2.2.1,HW.out.1.2.2.2.2.1,HW.out.1.2.2.2.2.2⟩,⟨by omega,hm.2⟩,fun b hb=>Nat.lt_of_lt_of_le (HO.out b hb) zcx.size⟩⟩,zcx⟩
 ·rw [hf] at HF
  have HR:=aA (show nX E key none from ⟨fun v hv=>(by cases hv),fun _ v hv=>(iO.1 (hE.mem_iff.2 hv)).elim fun i hi=>hi.elim fun p hp=>j8 i p hp.1 hp.2.1 hp.2.2.1⟩)
  have HW:=aA (And.intro hG (And.intro h1 (And.intro h2 (And.intro h3 aZ))))
  clear h hk Ui hI hE hf hfree j8 hG h1 h2 h3 ha aZ
  go_enter Tryz.func145,Tryz.ntmps145
  go_wp2_with fail
  refine HF.out.mono ?_
  rintro e w1 ⟨rfl,x1⟩
  have X1:=aA x1
  clear x1 a3 f3
  simp only [Hd]
  go_wp2_with fail
  go_ret2
  have hC:=HC.out.trans' (aF.of X1.out)
  exact ⟨none,rfl,HR.out,⟨E,rfl,⟨⟨tb,T,Ks,HI.out.ext X1.out,HW.out.1,HE.out,HW.out.2.1,HW.out.2.2.1,HW.out.2.2.2.1,HW.out.2.2.2.2⟩,hm,fun b hb=>Nat.lt_of_lt_of_le (HO.out b hb) hC.size⟩⟩,hC⟩
theorem zbZ:(Tryz.prog.info? 5).map (fun i=>(i.zero,i.size,i.bytes))=some (some (.int .u8 0),1,1):=by kernel_rfl
set_option maxRecDepth 100000 in
theorem zbd (cells:List Value) (A:Option Addr) (n c:Nat) (w:World) (ha:Sl w A n 1 cells) (h1:aQ cells) (hn:n≤16777216) :
 Calls Tryz.prog 155 #[.slice A n c] w (wN w 5 1 n cells):=by
 obtain ⟨i0,eQ,hz0,hz1,eO⟩:=info_parts zbZ
 have Ha:=aA ha;have H1:=aA h1
 have zeG:∀ (w:World) (a:Option Addr) (n c n' c':Nat),(binOp .eql 155 (.slice a n c) (.slice none n' c')).run Tryz.prog w=.ok (.bool a.isNone) w:=fun w a n c n' c'=>Lib.run_eql_slice_nil w _ _ a n c n' c' Tryz.underlying155
 clear ha h1
 cases A with
 |none=>
  have zee:n=0:=by
   rcases Nat.eq_zero_or_pos n with h | h
   ·exact h
   ·obtain ⟨b,off,hA,_⟩:=Ha.out.2 h;cases hA
  subst zee
  have hc:cells=[]:=List.eq_nil_of_length_eq_zero (by have:=Ha.out.1;omega)
  subst hc
  go_enter Tryz.func155,Tryz.ntmps155
  go_wp2_with fail
  go_ret
  exact ⟨none,0,rfl,World.ownsRow_nil _ _ _ _,aD.refl _⟩
 |some a=>
  have cH:=aA (show (w.alloc (.cells #[] 5)).ownsRow w.heap.size 5 1 (.slice (some ⟨w.heap.size,0,none⟩) 0 0) 0 [] from ⟨rfl,.inr ⟨w.heap.size,0,#[],rfl,Nat.le_refl _,heap_alloc_new w _,Nat.le_refl _,by unfold maxLen;omega,rfl,rfl⟩⟩)
  go_enter Tryz.func155,Tryz.ntmps155
  go_wp2_with (at_builtin;refine dJ rfl (.tmp 5) (.tmp 6) _ rfl 5 i0 _ 1 1 Tryz.underlying155 eQ hz0 hz1 eO rfl (by omega) w (aD.alloc _ _) _ 0 [] rfl cH.out _ n c cells rfl (Ha.out.ext (aD.alloc _ _)) H1.out (by unfold maxLen;omega) (by omega) ?_;intro A8 c8 w8 own8 E8 G8 L8)
  go_ret
  have o:=own8.out
  simp only [Nat.zero_add,List.nil_append] at o
  exact ⟨A8,c8,by simp,o,E8.out⟩
theorem Y8 (k:List UInt8):aQ (Gx k):=fun v hv=>by
 obtain ⟨b,_,rfl⟩:=List.mem_map.1 hv
 rfl
theorem wP (key:List UInt8) (A:Option Addr) (n c:Nat) (w:World) (hk:eK w A n key) (hn:n≤16777216) :
 Calls Tryz.prog 155 #[.slice A n c] w fun e w'=>∃ K,e=.returned K∧aD w w'∧bF w' (fun b=>w.heap.size≤b∧b<w'.heap.size) K key:=by
 refine (zbd (Gx key) A n c w hk (Y8 key) hn).mono fun e w' h=>?_
 obtain ⟨A2,c2,rfl,ho,hE⟩:=h
 refine ⟨_,rfl,hE,A2,n,c2,rfl,⟨ho.1,?_⟩,fun a ha=>?_⟩
 ·rcases ho.2 with h1 | ⟨g,cap,cur,h1,h2,h3⟩
  ·exact .inl h1
  ·exact .inr ⟨g,cap,cur,h1,Nat.zero_le _,h3⟩
 ·subst ha
  rcases ho.2 with ⟨h1,_⟩ | ⟨g,cap,cur,h1,h2,h3,_⟩
  ·cases h1
  ·injection h1 with h1
   injection h1 with h1
   subst h1
   exact ⟨h2,aL.lt h3⟩
end Go.Proofs.YtahdiiaadjdmcaaGreat
