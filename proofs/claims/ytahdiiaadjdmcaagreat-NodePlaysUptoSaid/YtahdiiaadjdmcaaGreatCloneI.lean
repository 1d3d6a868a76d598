import Derived.Test.YtahdiiaadjdmcaaGreatStoI
namespace Go.Proofs.YtahdiiaadjdmcaaGreat
open Go.RowKit
set_option maxRecDepth 100000 in
theorem Xy (cells:List Value) (A:Option Addr) (n c:Nat) (w:World) (ha:Sl w A n 1 cells) (h1:aQ cells) (hn:n≤16777216) :
 Calls Tryz.prog 61 #[.slice A n c] w (wN w 3 1 n cells):=by
 obtain ⟨i0,eQ,hz0,hz1,eO⟩:=info_parts rB
 have Ha:=aA ha;have H1:=aA h1
 have zeG:∀ (w:World) (a:Option Addr) (n c n' c':Nat),(binOp .eql 23 (.slice a n c) (.slice none n' c')).run Tryz.prog w=.ok (.bool a.isNone) w:=fun w a n c n' c'=>Lib.run_eql_slice_nil w _ _ a n c n' c' Tryz.underlying23
 clear ha h1
 cases A with
 |none=>
  have zee:n=0:=by
   rcases Nat.eq_zero_or_pos n with h | h
   ·exact h
   ·obtain ⟨b,off,hA,_⟩:=Ha.out.2 h;cases hA
  subst zee
  have hc:cells=[]:=List.eq_nil_of_length_eq_zero (by have:=Ha.out.1;omega)
  subst hc
  go_enter Tryz.func61,Tryz.ntmps61
  go_wp2_with fail
  go_ret
  exact ⟨none,0,rfl,World.ownsRow_nil _ _ _ _,aD.refl _⟩
 |some a=>
  have cH:=aA (show (w.alloc (.cells #[] 3)).ownsRow w.heap.size 3 1 (.slice (some ⟨w.heap.size,0,none⟩) 0 0) 0 [] from ⟨rfl,.inr ⟨w.heap.size,0,#[],rfl,Nat.le_refl _,heap_alloc_new w _,Nat.le_refl _,by unfold maxLen;omega,rfl,rfl⟩⟩)
  go_enter Tryz.func61,Tryz.ntmps61
  go_wp2_with (at_builtin;refine dJ rfl (.tmp 5) (.tmp 6) _ rfl 3 i0 _ 1 8 Tryz.underlying23 eQ hz0 hz1 eO rfl (by omega) w (aD.alloc _ _) _ 0 [] rfl cH.out _ n c cells rfl (Ha.out.ext (aD.alloc _ _)) H1.out (by unfold maxLen;omega) (by omega) ?_;intro A8 c8 w8 own8 E8 G8 L8)
  go_ret
  have o:=own8.out
  simp only [Nat.zero_add,List.nil_append] at o
  exact ⟨A8,c8,by simp,o,E8.out⟩
end Go.Proofs.YtahdiiaadjdmcaaGreat
