import Derived.Test.YtahdiiaadjdmcaaGreatStoY
import Derived.Test.YtahdiiaadjdmcaaGreatNgB
namespace Go.Proofs.YtahdiiaadjdmcaaGreat
open Go.RowKit
theorem Qs {w:World} {B:Nat→Prop} {x:Nat} {S:aY} {N:Nat} (h:kK w B x S N):Calls Tryz.prog 38 #[.pointer (some ⟨x,0,none⟩)] w fun e w'=>e=.returned (.int .i64 S.rows.length)∧aD w w':=by
 obtain ⟨lab,v,D,P0,F0,h1,h2,h3,h4⟩:=h
 have h5:=Wh h1 h4.row
 rw [h3.x] at h5
 rw [h3.rows,List.length_map]
 exact h5
theorem qW {w:World} {width most:Int} {A:Option Addr} {n:Nat} (c:Nat) {gs:List (List Int)} (hg:qJ w A n gs) (hn:n≤1048576) (hl:∀ g∈gs,g.length≤1048576) (hz:lH width most gs=0) :
 Calls Tryz.prog 62 #[.int .i64 width,.int .i64 most,.slice A n c] w fun e w'=>∃ x B,e=.returned (.tuple #[.pointer (some ⟨x,0,none⟩),.int .i64 0])∧aD w w'∧kK w' B x ⟨width.toNat,most.toNat,gs.map fun g=>g.map Int.toNat,[],none⟩ 262144∧(∀ b,B b→w.heap.size≤b)∧∀ b,B b→b<w'.heap.size:=by
 refine (Tf width most c hg hn hl).mono ?_
 rintro e w' ⟨h0,⟨h1,-⟩ | ⟨-,x,lab,v,rfl,hm,hf,hd⟩⟩
 ·exact absurd hz h1
 ·obtain ⟨k1,k2,k3,k4⟩:=Xq hz
  obtain ⟨B,hI,hB,bC⟩:=(xX.sti hm hf (by omega) (by omega) (by rw [List.length_map];exact k3) k4).lt
  exact ⟨x,B,rfl,h0,hI,fun b hb=>hd b (hB b hb),bC⟩
end Go.Proofs.YtahdiiaadjdmcaaGreat
