import Derived.Test.YtahdiiaadjdmcaaGreatNgL
namespace Go.Proofs.YtahdiiaadjdmcaaGreat
open Go.RowKit
def RB (P:Nat→Prop):World→List Value→List V→Prop:=fun w cs r=>∃ A n c,cs=[.slice A n c]∧aJ w P 85 3 n (.slice A n c) (aO r)
theorem RB.keep {P Q:Nat→Prop} {w w':World} {cs:List Value} {r:List V} (h:RB P w cs r) (hw:bU P w w') (hq:∀ b,P b→Q b):RB Q w' cs r:=by
 obtain ⟨A,n,c,e,ho⟩:=h
 exact ⟨A,n,c,e,(ho.chg hw fun g hg h=>h hg).mono hq⟩
theorem Nb {w:World} {P:Nat→Prop} {A:Option Addr} {n c:Nat} {rows:List (List V)} (h:cY w P A n c rows):∃ xs,aJ w P 28 1 n (.slice A n c) xs∧gJ (RB P) 1 w xs rows:=by
 obtain ⟨h1,xs,h2,h3⟩:=h
 exact ⟨xs,h2,h3⟩
theorem pO.rb {w:World} {P:Nat→Prop} {A:Option Addr} {n c:Nat} {rows:List (List V)} (h:cY w P A n c rows):pO (RB P) 1 w A n rows:=by
 obtain ⟨h1,xs,h2,h3⟩:=h
 exact ⟨h1,xs,h3,Sl.own h2.own⟩
set_option maxRecDepth 100000 in
theorem yZ (xs:List (List V)) (r:List V) (A B:Option Addr) (n m c d:Nat) (w:World) (ha:pO nW 1 w A n xs) (hb:aW w B m r) (hn:n≤140737488355328) (hr:∀ s∈xs,s.length≤140737488355328) :
 Calls Tryz.prog 19 #[.slice A n c,.slice B m d] w fun e w'=>e=.returned (.bool (inB xs r))∧aD w w':=by
 have H:=aA (iU xs r A B n m c d w ha hb hn hr)
 have hp:=Jv r xs 0
 cases hi:inB xs r with
 |true=>
  have h0:=hp.2 (bK.1 hi)
  clear ha hb hr hp hi
  generalize oJ r xs 0=p at *
  go_enter Tryz.func19,Tryz.ntmps19
  go_wp2_with fail
  refine H.out.mono ?_
  rintro e w1 ⟨rfl,h1⟩
  have E1:=aA h1;clear h1
  go_wp2_with fail
  go_ret
  exact ⟨bX (by simp),E1.out⟩
 |false=>
  have h0:¬ 0≤oJ r xs 0:=fun h=>by
   have:=bK.2 (hp.1 h)
   rw [hi] at this;cases this
  clear ha hb hr hp hi
  generalize oJ r xs 0=p at *
  go_enter Tryz.func19,Tryz.ntmps19
  go_wp2_with fail
  refine H.out.mono ?_
  rintro e w1 ⟨rfl,h1⟩
  have E1:=aA h1;clear h1
  go_wp2_with fail
  go_ret
  exact ⟨bX (by simp;omega),E1.out⟩
theorem RB.grown {w w':World} {P Q:Nat→Prop} {cs:List Value} {r:List V} (h:RB P w cs r) {base:Nat} {v2:Value} {n2:Nat} {xs2:List Value} (h2:w.ownsRow base 28 1 v2 n2 xs2) (hg:w.grownBy w' v2.ownBlock) (hq:∀ b,P b→Q b):RB Q w' cs r:=by
 obtain ⟨A,n,c,e,ho⟩:=h
 exact ⟨A,n,c,e,(ho.grown h2 (by decide) hg).mono hq⟩
theorem Ep {w w':World} {rows:List (List V)} {e:Ending} (h:Ia w rows e w'):∃ A c xs,e=.returned (.slice A rows.length c)∧aD w w'∧aJ w' (fun b=>w.heap.size≤b∧b<w'.heap.size) 28 1 rows.length (.slice A rows.length c) xs∧gJ (RB fun b=>w.heap.size≤b∧b<w'.heap.size) 1 w' xs rows:=by
 obtain ⟨A,n,c,cells,rfl,rfl,h3,h4,h5⟩:=h
 refine ⟨A,c,cells,rfl,h5,⟨dS h3 (Nat.zero_le _),fun g hg=>h3.lt g hg⟩,h4.mono fun cs r hx=>?_⟩
 obtain ⟨A,n,c,e,ho⟩:=hx
 exact ⟨A,n,c,e,dS ho (Nat.zero_le _),fun g hg=>ho.lt g hg⟩
theorem bD.rb {w:World} {A:Option Addr} {n c:Nat} {r:List V} {base:Nat} (h:w.ownsRow base 85 3 (.slice A n c) n (aO r)):RB (fun b=>base≤b∧b<w.heap.size) w [.slice A n c] r:=⟨A,n,c,rfl,dS h (Nat.zero_le _),fun g hg=>h.lt g hg⟩
theorem pN {w:World} {P:Nat→Prop} {u:Value} {r:List V} (h:RB P w [u] r):gJ (RB P) 1 w [u] [r]:=gJ.single rfl (fun v hv=>by
 obtain ⟨A,n,c,e,-⟩:=h
 obtain rfl:=List.mem_singleton.1 hv
 injection e with e
 rw [e];rfl) h
theorem RB.mono {P Q:Nat→Prop} {w:World} {cs:List Value} {r:List V} (h:RB P w cs r) (hq:∀ b,P b→Q b):RB Q w cs r:=by
 obtain ⟨A,n,c,e,ho⟩:=h
 exact ⟨A,n,c,e,ho.mono hq⟩
end Go.Proofs.YtahdiiaadjdmcaaGreat
