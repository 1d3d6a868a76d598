import Derived.Test.YtahdiiaadjdmcaaGreatGaD
namespace Go.Proofs.YtahdiiaadjdmcaaGreat
open Go.RowKit
def oJ (r:List V):List (List V)→Nat→Int
 | [],_=>-1
 | s :: l,i=>if bP s r then i else oJ r l (i+1)
theorem Td (r:List V) (xs:List (List V)) (i:Nat) (x:List V) (h:xs[i]?=some x):oJ r (xs.drop i) i=if bP x r then (i:Int) else oJ r (xs.drop (i+1)) (i+1):=by
 obtain ⟨h,e⟩:=List.getElem?_eq_some_iff.1 h
 rw [List.drop_eq_getElem_cons h,e];rfl
theorem Jv (r:List V):∀ (xs:List (List V)) (i:Nat),0≤oJ r xs i ↔ r∈xs
 | [],_=>by simp [oJ]
 |s :: l,i=>by
  unfold oJ
  by_cases h:bP s r=true
  ·have e:=cP.1 h
   subst e
   simp [h]
  ·rw [if_neg h,Jv r l (i+1),List.mem_cons]
   constructor
   ·exact .inr
   ·rintro (rfl | h2)
    ·exact absurd (cP.2 rfl) h
    ·exact h2
set_option maxRecDepth 100000 in
theorem iU (xs:List (List V)) (r:List V) (A B:Option Addr) (n m c d:Nat) (w:World) (ha:pO nW 1 w A n xs) (hb:aW w B m r) (hn:n≤140737488355328) (hr:∀ s∈xs,s.length≤140737488355328) :
 Calls Tryz.prog 17 #[.slice A n c,.slice B m d] w fun e w'=>e=.returned (.int .i64 (oJ r xs 0))∧aD w w':=by
 have Ha:=aA ha;have Hb:=aA hb;have Hr:=aA hr;clear ha hb hr
 go_enter Tryz.func17,Tryz.ntmps17
 go_wp2
 go_loopw [4,5] (fun _ k w'=>∃ i:Nat,i≤n∧k=.int .i64 i∧Hid (oJ r xs 0=oJ r (xs.drop i) i)∧Hid (aD w w')) (fun _ k _=>n - (intOf k).toNat)
 case atStart=>exact ⟨0,by omega,rfl,rfl,aD.refl _⟩
 case round=>
  obtain ⟨i,bE,rfl,ho,hw⟩:=hrel
  by_cases h:i<n
  ·obtain ⟨b,off,x,A1,n1,c1,rfl,hx,oY,d0,hR1⟩:=(Ha.out.ext nW.stab hw.out).row_ h
   have hd:=aA (Td r xs i x hx)
   have Gh:n1≤140737488355328:=by have:=Hr.out x (List.mem_of_getElem? hx);have:=hR1.len;omega
   have HS:=aA (oN x r A1 B n1 m c1 d wr hR1 (Hb.out.ext hw.out) Gh)
   clear hx hR1 oY
   go_wp2_with fail
   refine HS.out.mono ?_
   rintro e w1 ⟨rfl,h1⟩
   have E1:=aA (hw.out.trans h1);clear h1 d0
   cases hv:bP x r with
   |true=>
    have Hv:=aA hv;clear hv
    go_wp2_with fail
    go_ret
    exact ⟨y7 (by rw [ho.out,hd.out];simp [Hv.out]),E1.out⟩
   |false=>
    have Hv:=aA hv;clear hv
    go_wp2_with fail
    go_roundw
    case rel=>exact ⟨i+1,by omega,by go_num,by rw [Hid,ho.out,hd.out];simp [Hv.out],E1.out⟩
    case measure=>simp [intOf];omega
  ·go_wp2_with fail
   go_ret
   exact ⟨y7 (by rw [ho.out,List.drop_of_length_le (by have:=Ha.out.len;omega)];rfl),hw.out⟩
end Go.Proofs.YtahdiiaadjdmcaaGreat
