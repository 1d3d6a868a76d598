import Derived.Test.YtahdiiaadjdmcaaGreatNgT
import Derived.Test.YtahdiiaadjdmcaaGreatCloseW
/-
  NodePlays: whatever comes in (of bulk at most 1048576), the law returns true and what came in reads as it did.
-/
namespace Go.Proofs.YtahdiiaadjdmcaaGreat
open Go.RowKit Go.ChangeShapes Go.WideShapes Go.ChangeAt
set_option maxRecDepth 100000 in
theorem s8 (H:Type) (enc:TypeId × Value→H) (W:World) (base:Nat) (args:Array Value) (ds gs:List (DataW H)) (before:List MemPlace)
 (uU:∀ (j:Nat) t v,Tryz.f8.params[j]?=some t→args[j]?=some v→Value.okWide Tryz.prog W .any base t v)
 (hW:DataW.Whole enc Tryz.prog Tryz.f8.params.toList Rows.nodePlaysSpec.vars false W args.toList ds gs before) (hk:Rows.uptoSmall H (ds ++ gs)=true) :
 Calls Tryz.prog 8 args W fun e W'=>∃ v,e=.returned v∧Rows.nodePlaysSpec.post enc Tryz.prog Tryz.f8 false true false false W args v W':=by
 have hW':=hW
 obtain ⟨p,q,hA,hV,rfl,hfz,jP⟩:=hW
 obtain ⟨rfl,rfl⟩:=trodVars_none (hV:DataW.TrodVars enc Tryz.prog W (fun _=>true) [] gs q)
 have hA:DataW.TrodAll enc Tryz.prog W 0 (fun _=>true) true [25,26] args.toList ds p:=hA
 rw [Tryz.params8] at uU
 obtain ⟨v0,vs0,d0,ds0,p0,q0,hargs,rfl,rfl,h0,r0⟩:=trodAll_cons hA
 obtain ⟨v1,vs1,d1,ds1,p1,q1,rfl,rfl,rfl,h1,r1⟩:=trodAll_cons r0
 obtain ⟨rfl,rfl,rfl⟩:=trodAll_nil r1
 obtain rfl:args = #[v0,v1]:=by cases args;simp_all
 have Rn:Rows.uptoBulkAll ([d0,d1] ++ [])≤1048576:=of_decide_eq_true hk
 simp only [List.cons_append,List.nil_append,Rows.uptoBulkAll] at Rn
 obtain ⟨cs0,rfl,_⟩:=okWide_struct Tryz.underlying25 (uU 0 25 v0 rfl rfl)
 obtain ⟨f0,h0⟩:=h0
 obtain ⟨x0,L0,e0,a0,b0,c0,k0,m0,n0⟩:=Tz h0
 obtain rfl:cs0=bQ x0 L0:=by
  obtain ⟨l⟩:=cs0
  have e9:l=(bQ x0 L0).toList:=e0
  rw [e9]
 dsimp only at k0 m0 n0
 obtain ⟨_,_,_,rfl⟩:=okWide_slice Tryz.underlying26 (uU 1 26 v1 rfl rfl)
 obtain ⟨f1,h1⟩:=h1
 obtain ⟨A1,n1,c1,x1,e1,a1,k1,b1,s1,w1⟩:=Ms Tryz.underlying26 h1
 simp only [Value.cells,List.cons.injEq,and_true,Value.slice.injEq] at e1
 obtain ⟨rfl,rfl,rfl⟩:=e1
 dsimp only at b1 s1
 refine (S8 _ _ _ _ _ _ _ ⟨a0,b0,c0,by omega,by omega,by omega⟩ a1 k1 (by omega) (fun r hr=>⟨Nat.le_trans (s1 r hr).1 (by omega),fun v hv=>Nat.le_trans ((s1 r hr).2 v hv) (by omega)⟩) w1).mono fun e W' ⟨he,hE⟩=>⟨_,he,?_⟩
 exact W6 yh (tb:=4) (by kernel_rfl) (by rfl) Tryz.underlying4 rfl rfl hW' hE
set_option maxRecDepth 100000 in
theorem xL (os:Os) (started:os.Started) (H:Type) (enc:TypeId × Value→H) (F:Stop.Interp) :
 ReturnsInHanded {} Tryz.checked os 8 .any ((Rows.OpenSpec.upto Rows.nodePlaysSpec).pre6 enc Tryz.prog Tryz.f8 Rows.nodePlaysUptoRow.domain false) (((Rows.OpenSpec.upto Rows.nodePlaysSpec).at F).post enc Tryz.prog Tryz.f8 false true false false):=by
 refine returnsInHanded_of_cond (C:=Tryz.checked) (s:=Rows.OpenSpec.upto Rows.nodePlaysSpec) (k:=Rows.uptoSmall) rfl own started (by kernel_rfl) Tryz.func8
  (OpenSpec.witness (enc:=enc) (C:=Tryz.checked) (s:=Rows.OpenSpec.upto Rows.nodePlaysSpec) (k:=Rows.uptoSmall) rfl false ⟨#[],#[.agg #[.int .i64 0,.int .i64 0,.slice none 0 0,.slice none 0 0,.slice none 0 0,.int .i64 0],.slice none 0 0],[]⟩ 8 (by kernel_rfl) (by kernel_rfl) (by kernel_rfl)
   (x:=([.agg [.lit (.int .i64 0),.lit (.int .i64 0),.nil,.nil,.nil,.lit (.int .i64 0)],.nil],[],[])) (by kernel_rfl) rfl (by kernel_rfl)) ?_
 intro W base args ds gs before uU hW _ hk _
 exact s8 H enc W base args ds gs before uU hW hk
theorem nodePlays_said:Rows.NodePlaysUptoSaid:=
 OpenClaim.holds_of_cond 8 Tryz.f8 rfl rfl rfl rfl rfl rfl rfl ⟨rfl,rfl,rfl,rfl,rfl⟩ rfl rfl rfl rfl rfl (by kernel_rfl) Tryz.func8 (by kernel_rfl)
  (of_decide_eq_true (by kernel_rfl)) (by unfold Func.isWrapper;first | (rw [if_pos (by decide +kernel)];kernel_rfl) | (rw [if_neg (by decide +kernel)];exact ⟨rfl,rfl⟩))
  (fun os started H enc _ F=>xL os started H enc F)
end Go.Proofs.YtahdiiaadjdmcaaGreat
