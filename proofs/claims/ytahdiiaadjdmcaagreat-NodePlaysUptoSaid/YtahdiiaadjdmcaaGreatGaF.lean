import Derived.Laws.Bits64
import Derived.Deep.Draws
import Derived.Test.YtahdiiaadjdmcaaGreatGaD
namespace Go.Proofs.YtahdiiaadjdmcaaGreat
open Go.RowKit
def bO (v:V):Bool:=if v.k=1 then v.t.toList.isEmpty else if v.k=2 then (if v.i=0 then decide ((v.t.size:Int)≤64) else false) else false
def cQ (r:List V):Bool:=decide (r.length≤30) && r.all bO
set_option maxRecDepth 100000 in
theorem Ry (v:V) (w:World) (hs:v.t.size≤1048576):Calls Tryz.prog 98 #[v.val] w fun e w'=>e=.returned (.bool (bO v))∧aD w w':=by
 obtain ⟨k,i,t⟩:=v
 simp only [V.val]
 dsimp only at hs
 by_cases h1:k=1
 ·subst h1
  go_enter Tryz.func98,Tryz.ntmps98
  go_wp2
  go_ret
  exact ⟨bX (by simp [bO]),aD.alloc _ _⟩
 ·have h1':(k == 1)=false:=by simpa using h1
  have H1:=aA h1;clear h1
  by_cases h2:k=2
  ·subst h2
   clear H1
   by_cases h3:i=0
   ·subst h3
    go_enter Tryz.func98,Tryz.ntmps98
    go_wp2
    go_ret
    exact ⟨bX (by simp [bO]),aD.alloc _ _⟩
   ·have h3':(i == 0)=false:=by simpa using h3
    have H3:=aA h3;clear h3
    go_enter Tryz.func98,Tryz.ntmps98
    go_wp2
    go_ret
    exact ⟨bX (by simp [bO,H3.out]),aD.alloc _ _⟩
  ·have h2':(k == 2)=false:=by simpa using h2
   have H2:=aA h2;clear h2
   go_enter Tryz.func98,Tryz.ntmps98
   go_wp2
   go_ret
   exact ⟨bX (by simp [bO,H1.out,H2.out]),aD.alloc _ _⟩
theorem size0 (t:ByteArray):((t.size:Int) == 0)=t.toList.isEmpty:=by
 rw [ByteArray.toList_eq,Bool.eq_iff_iff,List.isEmpty_iff]
 simp only [beq_iff_eq]
 have:t.data.toList.length=t.size:=Array.length_toList
 constructor
 ·intro h;exact List.eq_nil_of_length_eq_zero (by omega)
 ·intro h;rw [h] at this;simp at this;omega
set_option maxRecDepth 100000 in
theorem Cw (v:V) (w:World) (hs:v.t.size≤1048576):Calls Tryz.prog 69 #[v.val] w fun e w'=>e=.returned (.bool (bO v))∧aD w w':=by
 obtain ⟨k,i,t⟩:=v
 simp only [V.val]
 dsimp only at hs
 by_cases h1:k=1
 ·subst h1
  have hz:=aA (size0 t)
  go_enter Tryz.func69,Tryz.ntmps69
  go_wp2
  go_ret
  exact ⟨bX (by simp [bO,← hz.out]),aD.alloc _ _⟩
 ·have h1':(k == 1)=false:=by simpa using h1
  have H1:=aA h1;clear h1
  by_cases h2:k=2
  ·subst h2
   clear H1
   by_cases h3:i=0
   ·subst h3
    go_enter Tryz.func69,Tryz.ntmps69
    go_wp2
    go_ret
    exact ⟨bX (by simp [bO]),aD.alloc _ _⟩
   ·have h3':(i == 0)=false:=by simpa using h3
    have H3:=aA h3;clear h3
    go_enter Tryz.func69,Tryz.ntmps69
    go_wp2
    go_ret
    exact ⟨bX (by simp [bO,H3.out]),aD.alloc _ _⟩
  ·have h2':(k == 2)=false:=by simpa using h2
   have H2:=aA h2;clear h2
   go_enter Tryz.func69,Tryz.ntmps69
   go_wp2
   go_ret
   exact ⟨bX (by simp [bO,H1.out,H2.out]),aD.alloc _ _⟩
def dP (r:List V):Prop:=∀ v∈r,v.t.size≤1048576
theorem dP.get {r:List V} (h:dP r) {i:Nat} {v:V} (hv:r[i]?=some v):v.t.size≤1048576:=h v (List.mem_of_getElem? hv)
theorem Di (v:V) (w:World) (hs:v.t.size≤1048576):Calls Tryz.prog 97 #[v.val] w fun e w'=>e=.returned (.bool (!bO v))∧aD w w':=by
 have H:=aA (Ry v (w.alloc (.cells #[.int .i64 v.k,.int .i64 v.i,.string v.t] 85)) hs)
 have HE:=aA (aD.alloc w (.cells #[.int .i64 v.k,.int .i64 v.i,.string v.t] 85))
 simp only [V.val] at *
 go_enter Tryz.func97,Tryz.ntmps97
 go_wp2_with fail
 refine H.out.mono ?_
 rintro e w1 ⟨rfl,h1⟩
 have E1:=aA (HE.out.trans h1);clear h1
 go_wp2_with fail
 go_ret
 exact ⟨rfl,E1.out⟩
def gQ:List V→Nat→Int
 | [],_=>-1
 | v :: r,i=>if bO v then gQ r (i+1) else i
theorem Dz (r:List V) (i:Nat) (v:V) (h:r[i]?=some v):gQ (r.drop i) i=if bO v then gQ (r.drop (i+1)) (i+1) else (i:Int):=by
 rw [List.getElem?_eq_some_iff] at h
 obtain ⟨h,e⟩:=h
 rw [List.drop_eq_getElem_cons h,e];rfl
theorem vI:∀ (r:List V) (i:Nat),0≤gQ r i ↔ r.all bO=false
 | [],_=>by simp [gQ]
 |v :: r,i=>by
  have ih:=vI r (i+1)
  by_cases h:bO v=true
  ·simp only [gQ,h,if_true,List.all_cons,Bool.true_and];exact ih
  ·have h:bO v=false:=by simpa using h
   simp [gQ,h]
theorem Im (r:List V) (i:Nat):decide (0≤gQ r i) = !r.all bO:=by
 rw [Bool.eq_iff_iff,decide_eq_true_iff,vI];simp
set_option maxRecDepth 100000 in
theorem Mj (r:List V) (A:Option Addr) (n c:Nat) (w:World) (ha:aW w A n r) (hn:n≤1048576) (hs:dP r) :
 Calls Tryz.prog 107 #[.slice A n c,.func (.func 97) #[] #[]] w fun e w'=>e=.returned (.int .i64 (gQ r 0))∧aD w w':=by
 have Ha:=aA ha;have Hs:=aA hs;clear ha hs
 go_enter Tryz.func107,Tryz.ntmps107
 go_wp2
 go_loopw [4,5,8] (fun _ _ k w'=>∃ i:Nat,i≤n∧k=.int .i64 i∧Hid (gQ r 0=gQ (r.drop i) i)∧Hid (aD w w')) (fun _ _ k _=>n - (intOf k).toNat)
 case atStart=>exact ⟨0,by omega,rfl,rfl,aD.refl _⟩
 case round=>
  obtain ⟨i,bE,rfl,ho,hw⟩:=hrel
  by_cases h:i<n
  ·obtain ⟨b,off,x,rfl,hx,oY,c0,c1,c2⟩:=(Ha.out.ext hw.out).get h
   have hd:=aA (Dz r i x hx)
   have zf1:=aA (Hs.out.get hx);clear hx
   go_wp2_with fail
   refine (Di x _ zf1.out).mono ?_
   rintro e w1 ⟨rfl,h1⟩
   have E1:=aA (hw.out.trans h1)
   clear h1 c0 c1 c2 oY
   cases hv:bO x with
   |true=>
    have Hv:=aA hv;clear hv
    go_wp2_with fail
    go_roundw
    case rel=>exact ⟨i+1,by omega,by go_num,by rw [Hid,ho.out,hd.out,Hv.out];rfl,E1.out⟩
    case measure=>simp [intOf];omega
   |false=>
    have Hv:=aA hv;clear hv
    go_wp2_with fail
    go_ret
    exact ⟨y7 (by rw [ho.out,hd.out,Hv.out];rfl),E1.out⟩
  ·go_wp2_with fail
   go_ret
   exact ⟨y7 (by rw [ho.out,List.drop_of_length_le (by have:=Ha.out.len;omega)];rfl),hw.out⟩
theorem C0 (r:List V) (A:Option Addr) (n c:Nat) (w:World) (ha:aW w A n r) (hn:n≤1048576) (hs:dP r) :
 Calls Tryz.prog 96 #[.slice A n c,.func (.func 97) #[] #[]] w fun e w'=>e=.returned (.bool (!r.all bO))∧aD w w':=by
 have H:=aA (Mj r A n c w ha hn hs);clear ha hs
 go_enter Tryz.func96,Tryz.ntmps96
 go_wp2_with fail
 refine H.out.mono ?_
 rintro e w1 ⟨rfl,h1⟩
 have E1:=aA h1;clear h1
 go_wp2_with fail
 go_ret
 exact ⟨bX (Im r 0),E1.out⟩
theorem rX (r:List V) (A:Option Addr) (n c:Nat) (w:World) (ha:aW w A n r) (hn:n≤1048576) (hs:dP r) :
 Calls Tryz.prog 81 #[.slice A n c] w fun e w'=>e=.returned (.bool (cQ r))∧aD w w':=by
 have H:=aA (C0 r A n c w ha hn hs)
 have hl:=aA ha.len;clear ha hs
 by_cases h:n≤30
 ·go_enter Tryz.func81,Tryz.ntmps81
  go_wp2_with fail
  refine H.out.mono ?_
  rintro e w1 ⟨rfl,h1⟩
  have E1:=aA h1;clear h1
  go_wp2_with fail
  go_ret
  exact ⟨bX (by simp [cQ,← hl.out,h]),E1.out⟩
 ·go_enter Tryz.func81,Tryz.ntmps81
  go_wp2_with fail
  go_ret
  exact ⟨bX (by simp [cQ,← hl.out,h]),aD.refl _⟩
theorem jj (r:List V) (i:Nat) (v:V) (h:r[i]?=some v):(r.drop i).all bO=(bO v && (r.drop (i+1)).all bO):=by
 rw [List.getElem?_eq_some_iff] at h
 obtain ⟨h,e⟩:=h
 rw [List.drop_eq_getElem_cons h,e];rfl
set_option maxRecDepth 100000 in
theorem Sa (r:List V) (A:Option Addr) (n c:Nat) (w:World) (ha:aW w A n r) (hn:n≤1048576) (hs:dP r) :
 Calls Tryz.prog 40 #[.slice A n c] w fun e w'=>e=.returned (.bool (cQ r))∧aD w w':=by
 have Ha:=aA ha;have Hs:=aA hs;have hl:=aA ha.len;clear ha hs
 by_cases h30:n≤30
 ·go_enter Tryz.func40,Tryz.ntmps40
  go_wp2
  go_loopw [2,3] (fun _ k w'=>∃ i:Nat,i≤n∧k=.int .i64 i∧Hid (r.all bO=(r.drop i).all bO)∧Hid (aD w w')) (fun _ k _=>n - (intOf k).toNat)
  case atStart=>exact ⟨0,by omega,rfl,rfl,aD.refl _⟩
  case round=>
   obtain ⟨i,bE,rfl,ho,hw⟩:=hrel
   by_cases h:i<n
   ·obtain ⟨b,off,x,rfl,hx,oY,c0,c1,c2⟩:=(Ha.out.ext hw.out).get h
    have hd:=aA (jj r i x hx)
    have zf1:=aA (Hs.out.get hx);clear hx
    go_wp2_with fail
    refine (Cw x _ zf1.out).mono ?_
    rintro e w1 ⟨rfl,h1⟩
    have E1:=aA (hw.out.trans h1)
    clear h1 c0 c1 c2 oY
    cases hv:bO x with
    |true=>
     have Hv:=aA hv;clear hv
     go_wp2_with fail
     go_roundw
     case rel=>exact ⟨i+1,by omega,by go_num,by rw [Hid,ho.out,hd.out,Hv.out];simp,E1.out⟩
     case measure=>simp [intOf];omega
    |false=>
     have Hv:=aA hv;clear hv
     go_wp2_with fail
     go_ret
     exact ⟨bX (by rw [cQ,ho.out,hd.out,Hv.out];simp),E1.out⟩
   ·go_wp2_with fail
    go_ret
    exact ⟨bX (by rw [cQ,ho.out,List.drop_of_length_le (by have:=hl.out;omega)];simp [← hl.out,h30]),hw.out⟩
 ·go_enter Tryz.func40,Tryz.ntmps40
  go_wp2
  go_ret
  exact ⟨bX (by simp [cQ,← hl.out,h30]),aD.refl _⟩
end Go.Proofs.YtahdiiaadjdmcaaGreat
namespace Go.Proofs.YtahdiiaadjdmcaaGreat
def tC:List UInt8→List UInt8
 | []=>[]
 | b :: l=>if b=0 then 0 :: 255 :: tC l else b :: tC l
def pB (i:Int):Nat:=(i+9223372036854775808).toNat
def vC (N:Nat):List UInt8:=[56,48,40,32,24,16,8,0].map fun s=>UInt8.ofNat (N / 2 ^ s)
def jZ (v:V):List UInt8:=if v.k=1 then 1 :: vC (pB v.i) else 2 :: (tC v.t.data.toList ++ [0,0])
def dK (r:List V):List UInt8:=r.flatMap jZ
def iQ (r:List V):List UInt8 × Int:=if 30<r.length then ([],20) else if cQ r then (dK r,0) else ([],21)
def iI (l:List UInt8):List Value:=l.map fun b=>Value.int .u8 (b.toNat:Int)
theorem zS (l:List UInt8):(iI l).length=l.length:=by simp [iI]
theorem Dx (l m:List UInt8):iI (l ++ m)=iI l ++ iI m:=by simp [iI]
theorem Ps (l:List UInt8):aQ (iI l):=fun v hv=>by
 obtain ⟨x,_,rfl⟩:=List.mem_map.1 hv
 rfl
theorem pM:∀ l m:List UInt8,tC (l ++ m)=tC l ++ tC m
 | [],m=>rfl
 |b :: l,m=>by
  simp only [List.cons_append,tC,pM l m]
  split <;> simp
theorem Qc:∀ l:List UInt8,(tC l).length≤2*l.length
 | []=>by simp [tC]
 |b :: l=>by
  have:=Qc l
  simp only [tC]
  split <;> simp <;> omega
theorem Ue (v:V) (h:bO v=true):(jZ v).length≤131:=by
 unfold jZ
 unfold bO at h
 split
 ·simp [vC]
 ·rename_i h1
  rw [if_neg h1] at h
  split at h
  ·split at h
   ·have h2:=Qc v.t.data.toList
    have h3:v.t.data.toList.length=v.t.size:=Array.length_toList
    have h4:(v.t.size:Int)≤64:=by simpa using h
    simp;omega
   ·cases h
  ·cases h
theorem Em:∀ r:List V,r.all bO=true→(dK r).length≤131*r.length
 | [],_=>by simp [dK]
 |v :: r,h=>by
  simp only [List.all_cons,Bool.and_eq_true] at h
  have h1:=Ue v h.1
  have h2:=Em r h.2
  simp only [dK,List.flatMap_cons,List.length_append,List.length_cons] at h2 ⊢
  omega
theorem Pe (r:List V) (v:V):dK (r ++ [v])=dK r ++ jZ v:=by simp [dK]
theorem Ω (Y:Nat) (h:Y<2 ^ 63):Y ^^^ 2 ^ 63=2 ^ 63+Y:=Nat.eq_of_testBit_eq fun j=>by
 rw [Nat.testBit_xor,Nat.testBit_two_pow]
 rcases Nat.lt_trichotomy j 63 with hj | hj | hj
 ·rw [Nat.testBit_two_pow_add_gt hj]
  have e:decide (63=j)=false:=by rw [decide_eq_false_iff_not];omega
  rw [e];cases Y.testBit j <;> rfl
 ·subst hj
  rw [Nat.testBit_two_pow_add_eq]
  simp
 ·have h1:Y.testBit j=false:=Nat.testBit_lt_two_pow (Nat.lt_trans h (Nat.pow_lt_pow_right (by omega) hj))
  have h2:(2 ^ 63+Y).testBit j=false:=Nat.testBit_lt_two_pow (Nat.lt_of_lt_of_le (show 2 ^ 63+Y<2 ^ 64 by omega) (Nat.pow_le_pow_right (by omega) (by omega)))
  have e:decide (63=j)=false:=by rw [decide_eq_false_iff_not];omega
  rw [h1,h2,e];rfl
def rI (i:Int):Nat:=(i % 18446744073709551616).toNat
theorem jl (i:Int):IntKind.u64.wrap i=(rI i:Int):=by
 rw [IntKind.wrap_u64];unfold rI;omega
theorem Wr (i:Int):rI i<18446744073709551616:=by unfold rI;omega
theorem x_ {i:Int} (h : -9223372036854775808≤i∧i≤9223372036854775807):pB i<18446744073709551616:=by unfold pB;omega
theorem Xs {i:Int} (h : -9223372036854775808≤i∧i≤9223372036854775807):rI i ^^^ 9223372036854775808=pB i:=by
 have e:(9223372036854775808:Nat)=2 ^ 63:=by decide
 by_cases h0:0≤i
 ·have hX:rI i<2 ^ 63:=by unfold rI;omega
  rw [e,Ω _ hX]
  unfold rI pB;omega
 ·have hY:pB i<2 ^ 63:=by unfold pB;omega
  have h2:=Ω _ hY
  have h3:rI i=2 ^ 63+pB i:=by unfold rI pB;omega
  rw [h3,← h2,e,Nat.xor_assoc,Nat.xor_self,Nat.xor_zero]
section
variable {P:Program} {w:World}
end
end Go.Proofs.YtahdiiaadjdmcaaGreat
namespace Go.Proofs.YtahdiiaadjdmcaaGreat
open Go.RowKit
end Go.Proofs.YtahdiiaadjdmcaaGreat
