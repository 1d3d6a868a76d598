/-
  A region that draws its order, in whatever line one likes: operations that yield one value in every world that meets St may be taken ahead, as soon as they are ready; the others when they are the only ones.
  law of node: awake.
  law of node: turn.
-/
import Derived.Test.YtahdiiaadjdmcaaGreatGbD
import Derived.Test.YtahdiiaadjdmcaaGreatNgH
import Derived.Test.YtahdiiaadjdmcaaGreatNgI
namespace Go.Proofs.YtahdiiaadjdmcaaGreat
open Go.RowKit

def ordB (md : Region.Mode) (ops : Array Oper) : List (Nat × Bool) → Array Bool → Bool
  | [], listed => (Region.ready md ops listed).isEmpty
  | (k, true) :: ks, listed => (Region.ready md ops listed).contains k && Region.free md ops listed k && ordB md ops ks (listed.setIfInBounds k true)
  | (k, false) :: ks, listed => decide (Region.ready md ops listed = [k]) && ordB md ops ks (listed.setIfInBounds k true)
def ordA (ops : Array Oper) (ks : List (Nat × Bool)) : Bool := decide (ks.length = ops.size) && Region.noSelect ops && ordB .any ops ks (Array.replicate ops.size false)
def wpO (P : Program) (ops : Array Oper) (Q : Exit → Act → World → Prop) (St : World → Prop) : List (Nat × Bool) → Act → World → Prop
  | [], a, w => Q .normal a w
  | (k, true) :: ks, a, w => ∃ o, ops[k]? = some o ∧ ∃ v, YieldsIf P ops St o v a ∧ ∀ K : Act → Prop, (∀ a, wpO P ops Q St ks a w → K a) → K (a.put o.dst v)
  | (k, false) :: ks, a, w => ∃ o, ops[k]? = some o ∧ wpList P ops (exL Q St (wpO P ops Q St ks)) [o] a w
section
variable {P : Program} {ops : Array Oper} {md : Region.Mode} {Q : Exit → Act → World → Prop} {St : World → Prop}
theorem wpAnyH_of_O (hQ : ∀ c (d : Tmp) v (a : Act) w, Q (.panic c) (a.put (some d) v) w → Q (.panic c) a w) (hns : Region.noSelect ops = true) :
    ∀ (ks : List (Nat × Bool)) (listed : Array Bool) (a : Act) (w : World), ordB md ops ks listed = true → St w → wpO P ops Q St ks a w → wpAnyH P md ops Q St ks.length listed a w
  | [], listed, a, w, hB, hS, h => by
    simp only [ordB, List.isEmpty_iff] at hB
    exact ⟨hB, h⟩
  | (k, true) :: ks, listed, a, w, hB, hS, ⟨o, h0, v, hv, h⟩ => by
    simp only [ordB, Bool.and_eq_true] at hB
    obtain ⟨⟨hr, hf⟩, hB'⟩ := hB
    exact wpAnyH_take h0 hns hf hr (fun c a w => by cases o.dst with | none => exact id | some d => exact hQ c d v a w) hv hS (wpAnyH_of_O hQ hns ks _ _ w hB' hS (h (fun a => wpO P ops Q St ks a w) fun a h => h))
  | (k, false) :: ks, listed, a, w, hB, hS, ⟨o, h0, h⟩ => by
    simp only [ordB, Bool.and_eq_true, decide_eq_true_eq] at hB
    refine wpAnyH_all hB.1 (by simp) fun i hi => ?_
    obtain rfl := List.mem_singleton.1 hi
    refine wpOp_mono (fun a2 w2 h5 => ⟨h5.1, ?_⟩) (wp_exL h h0)
    exact wpAnyH_of_O hQ hns ks _ _ w2 hB.2 h5.1 h5.2
theorem wp_region_ord {id : Nat} {a : Act} {w : World} {l : List Oper} (ks : List (Nat × Bool)) (St : World → Prop) (hm : P.follows .mixedOrders = true) (hB : ordA l.toArray ks = true) (hQ : ∀ c (d : Tmp) v (a : Act) w, Q (.panic c) (a.put (some d) v) w → Q (.panic c) a w) (hSt : ∀ w', Ext w w' → St w')
    (h : ∀ w', Ext w w' → wpO P l.toArray Q St ks a w') : (Code.region id l.toArray true).wp P Q a w := by
  simp only [ordA, Bool.and_eq_true, decide_eq_true_eq] at hB
  obtain ⟨⟨hlen, hns⟩, hB⟩ := hB
  refine wp_region_held (S := St) hm ?_
  have hw1 : Ext w { w with drawn := w.drawn + 1 } := Ext.drew w
  have h1 := wpAnyH_of_O hQ hns ks _ a _ hB (hSt _ hw1) (h _ hw1)
  rw [hlen] at h1
  exact h1
end
end Go.Proofs.YtahdiiaadjdmcaaGreat

namespace Go.Proofs.YtahdiiaadjdmcaaGreat
open Go.RowKit

set_option maxRecDepth 100000 in
theorem num_any (n : Int) (w : World) : Calls Tryz.prog 34 #[.int .i64 n] w fun e w' => e = .returned (.agg #[.int .i64 1, .int .i64 n, .string ⟨#[]⟩]) ∧ Ext w w' := by
  have HE := hide ((Ext.alloc w (.cells #[.int .i64 1, .int .i64 n, .string ⟨#[]⟩] 85)))
  go_enter Tryz.func34, Tryz.ntmps34
  go_wp2_with fail
  refine bodyPost_ret (v := .agg #[.int .i64 1, .int .i64 n, .string ⟨#[]⟩]) (by simp [results, Tryz.results34, go_sem]) rfl ?_
  exact ⟨rfl, HE.out⟩
def awS : SP := ⟨1, 1, [], [], [], 1⟩
def awL : SPL := ⟨none, 0, none, 0, none, 0⟩
def awV : List V := [⟨1, 3, .empty⟩]
theorem aw_spec (w : World) : SpecAt w awS awL := ⟨⟨rfl, Sl.nil w none 1⟩, ⟨rfl, Sl.nil w none 1⟩, ⟨rfl, Sl.nil w none 1⟩, by decide, by decide, by decide⟩
theorem aw_good : awS.good = true := by kernel_rfl
theorem aw_turn : turnN (nkOf awS) emptyN.now true 1 awV = (⟨[awV], [], [], [awV]⟩, [awV], [awV], 0) := by kernel_rfl
theorem aw_arg (w : World) : ArgR (w.alloc (.cells #[.int .i64 1, .int .i64 3, .string ⟨#[]⟩] 85)) (some ⟨w.heap.size, 0, none⟩) 1 awV := by
  refine ⟨RowAt.lit w awV 85, by decide, ?_, ?_⟩
  · intro v hv
    obtain rfl := List.mem_singleton.1 hv
    decide
  · intro v hv
    obtain rfl := List.mem_singleton.1 hv
    decide
set_option maxRecDepth 100000 in
set_option maxHeartbeats 4000000 in
theorem awake_nd (w : World) : Calls Tryz.prog 10 #[] w fun e w' => e = .returned (.bool true) ∧ Ext w w' := by
  have HN := hide (show Calls Tryz.prog 30 #[.agg #[.int .i64 1, .int .i64 1, .slice none 0 0, .slice none 0 0, .slice none 0 0, .int .i64 1]] w fun e w' => ∃ n l, e = .returned (.tuple #[.pointer (some ⟨n, 0, none⟩), .int .i64 0]) ∧ NP w w' n l (nkOf awS) emptyN 262144 fun _ => False from (new_any (aw_spec w)).mono fun e w' hh => by
    obtain ⟨h1, ⟨h2, -⟩ | ⟨-, n, B, h3, h4, h5, -⟩⟩ := hh
    · rw [aw_good] at h2; cases h2
    · obtain ⟨l, hl⟩ := NP.of h4 h5 h1
      exact ⟨n, l, h3, hl⟩)
  go_enter Tryz.func10, Tryz.ntmps10
  go_upto_region 4 with ((with_reducible refine HN.out.mono ?_); rintro e w1 ⟨n, l, rfl, h1⟩; have N1 := hide h1; clear h1)
  have HM := hide (num_any 3 w1)
  go_upto_region 5 with ((with_reducible refine HM.out.mono ?_); rintro e w2 ⟨rfl, x2⟩; have X2 := hide x2; clear x2)
  have HO := hide ((((N1.out.ext X2.out).ext (Ext.alloc w2 (.cells #[.int .i64 1, .int .i64 3, .string ⟨#[]⟩] 85))).on (by decide) 1 1 (aw_arg w2) (fun x hx => by obtain rfl := Option.some.inj hx; exact .inr ⟨Nat.le_refl _, by simp⟩)).mono (R' := fun e w' => ∃ A c A2 c2 Q, e = .returned (.tuple #[.agg #[.slice A 1 c, .slice A2 1 c2], .int .i64 0]) ∧ NP w w' n l (nkOf awS) ⟨⟨[awV], [], [], [awV]⟩, none⟩ 1310720 Q) fun e w' hh => by
    rw [aw_turn] at hh
    obtain ⟨y, Q, rfl, h1, -, -, -, A, c, A2, c2, X, Y, rfl, -⟩ := hh
    exact ⟨A, c, A2, c2, Q, rfl, h1⟩)
  refine HO.out.mono ?_
  rintro e w4 ⟨A, c, A2, c2, Q, rfl, h4⟩
  have N4 := hide h4
  clear h4 HO N1 HM HN X2
  obtain ⟨g, hg⟩ : ∃ g, w4.heap.size = g := ⟨_, rfl⟩
  have HG := hide hg
  have hb := Blk.new w4 38 #[.slice A 1 c, .slice A2 1 c2]
  have he := Ext.alloc w4 (.cells #[.slice A 1 c, .slice A2 1 c2] 38)
  have HQ5 := hide (show And' Q w4.heap.size (w4.alloc (.cells #[.slice A 1 c, .slice A2 1 c2] 38)).heap.size g from .inr ⟨by omega, by simp; omega⟩)
  rw [hg] at hb
  clear hg
  go_upto_region 5 with fail
  rw [HG.out]
  have N5 := hide (N4.out.ext he)
  have B5 := hide hb
  clear hb he N4 HG
  generalize w4.alloc (.cells #[.slice A 1 c, .slice A2 1 c2] 38) = w5 at *
  generalize And' Q w4.heap.size w5.heap.size = Q5 at *
  refine wp_region_ord [(0, true), (1, true), (2, true), (3, true), (4, true), (5, true), (6, true), (7, true), (8, true), (9, true), (10, true), (11, true), (12, true), (13, true), (14, true), (15, true), (16, true), (17, true), (18, true), (19, false), (20, false), (21, false), (22, true), (23, true), (24, true), (25, false), (26, true), (27, true), (28, true), (29, true), (30, true), (31, true), (32, true), (33, false), (34, true), (35, true), (36, true), (37, true)] (fun w' => w'.cell? ⟨g, 0, none⟩ = some (.slice A 1 c) ∧ w'.cell? ⟨g, 1, none⟩ = some (.slice A2 1 c2) ∧ w'.cell? ⟨n, 0, none⟩ = some (ptr l)) (by kernel_rfl) (by kernel_rfl) (fun _ _ _ _ _ h => h) ?_ ?_
  · exact fun w' hw' => ⟨(B5.out.ext hw').cell 0, (B5.out.ext hw').cell 1, hw'.cell N5.out.cell0⟩
  intro wq hwq
  have NQ := hide (N5.out.ext hwq)
  unfold wpO
  refine ⟨_, rfl, ?_⟩
  apply Exists.intro
  refine ⟨.inl ⟨by rfl, fun w9 h9 => ?_⟩, fun K hK => ?_⟩
  · go_simp; first | done | rfl
  go_simp; refine hK _ ?_; clear hK K
  unfold wpO
  refine ⟨_, rfl, ?_⟩
  apply Exists.intro
  refine ⟨.inl ⟨by rfl, fun w9 h9 => ?_⟩, fun K hK => ?_⟩
  · go_simp; first | done | rfl
  go_simp; refine hK _ ?_; clear hK K
  unfold wpO
  refine ⟨_, rfl, ?_⟩
  apply Exists.intro
  refine ⟨.inl ⟨by rfl, fun w9 h9 => ?_⟩, fun K hK => ?_⟩
  · go_simp; first | done | rfl
  go_simp; refine hK _ ?_; clear hK K
  unfold wpO
  refine ⟨_, rfl, ?_⟩
  apply Exists.intro
  refine ⟨.inl ⟨by rfl, fun w9 h9 => ?_⟩, fun K hK => ?_⟩
  · go_simp; first | done | rfl
  go_simp; refine hK _ ?_; clear hK K
  unfold wpO
  refine ⟨_, rfl, ?_⟩
  apply Exists.intro
  refine ⟨.inl ⟨by rfl, fun w9 h9 => ?_⟩, fun K hK => ?_⟩
  · go_simp; first | done | rfl
  go_simp; refine hK _ ?_; clear hK K
  unfold wpO
  refine ⟨_, rfl, ?_⟩
  apply Exists.intro
  refine ⟨.inl ⟨by rfl, fun w9 h9 => ?_⟩, fun K hK => ?_⟩
  · go_simp; first | done | rfl
  go_simp; refine hK _ ?_; clear hK K
  unfold wpO
  refine ⟨_, rfl, ?_⟩
  apply Exists.intro
  refine ⟨.inl ⟨by rfl, fun w9 h9 => ?_⟩, fun K hK => ?_⟩
  · go_simp; first | done | rfl
  go_simp; refine hK _ ?_; clear hK K
  unfold wpO
  refine ⟨_, rfl, ?_⟩
  apply Exists.intro
  refine ⟨.inl ⟨by rfl, fun w9 h9 => ?_⟩, fun K hK => ?_⟩
  · go_simp; first | done | rfl
  go_simp; refine hK _ ?_; clear hK K
  unfold wpO
  refine ⟨_, rfl, ?_⟩
  apply Exists.intro
  refine ⟨.inl ⟨by rfl, fun w9 h9 => ?_⟩, fun K hK => ?_⟩
  · go_simp; first | done | rfl
  go_simp; refine hK _ ?_; clear hK K
  unfold wpO
  refine ⟨_, rfl, ?_⟩
  apply Exists.intro
  refine ⟨.inl ⟨by rfl, fun w9 h9 => ?_⟩, fun K hK => ?_⟩
  · go_simp; first | done | rfl
  go_simp; refine hK _ ?_; clear hK K
  unfold wpO
  refine ⟨_, rfl, ?_⟩
  apply Exists.intro
  refine ⟨.inl ⟨by rfl, fun w9 h9 => ?_⟩, fun K hK => ?_⟩
  · go_simp; first | done | rfl
  go_simp; refine hK _ ?_; clear hK K
  unfold wpO
  refine ⟨_, rfl, ?_⟩
  apply Exists.intro
  refine ⟨.inl ⟨by rfl, fun w9 h9 => ?_⟩, fun K hK => ?_⟩
  · go_simp; first | done | rfl
  go_simp; refine hK _ ?_; clear hK K
  unfold wpO
  refine ⟨_, rfl, ?_⟩
  apply Exists.intro
  refine ⟨.inl ⟨by rfl, fun w9 h9 => ?_⟩, fun K hK => ?_⟩
  · go_simp; first | done | rfl
  go_simp; refine hK _ ?_; clear hK K
  unfold wpO
  refine ⟨_, rfl, ?_⟩
  apply Exists.intro
  refine ⟨.inl ⟨by rfl, fun w9 h9 => ?_⟩, fun K hK => ?_⟩
  · go_simp; first | done | rfl
  go_simp; refine hK _ ?_; clear hK K
  unfold wpO
  refine ⟨_, rfl, ?_⟩
  apply Exists.intro
  refine ⟨.inl ⟨by rfl, fun w9 h9 => ?_⟩, fun K hK => ?_⟩
  · go_simp; first | done | rfl
  go_simp; refine hK _ ?_; clear hK K
  unfold wpO
  refine ⟨_, rfl, ?_⟩
  apply Exists.intro
  refine ⟨.inl ⟨by rfl, fun w9 h9 => ?_⟩, fun K hK => ?_⟩
  · go_simp; first | done | rfl
  go_simp; refine hK _ ?_; clear hK K
  unfold wpO
  refine ⟨_, rfl, ?_⟩
  apply Exists.intro
  refine ⟨.inl ⟨by rfl, fun w9 h9 => ?_⟩, fun K hK => ?_⟩
  · go_simp; first | done | rfl
  go_simp; refine hK _ ?_; clear hK K
  unfold wpO
  refine ⟨_, rfl, ?_⟩
  apply Exists.intro
  refine ⟨.inl ⟨by rfl, fun w9 h9 => ?_⟩, fun K hK => ?_⟩
  · go_simp; first | done | rfl
  go_simp; refine hK _ ?_; clear hK K
  unfold wpO
  refine ⟨_, rfl, ?_⟩
  apply Exists.intro
  refine ⟨.inl ⟨by rfl, fun w9 h9 => ?_⟩, fun K hK => ?_⟩
  · go_simp; first | done | rfl
  go_simp; refine hK _ ?_; clear hK K
  have HST := hide (show ∀ w' Q N, NP w w' n l (nkOf awS) ⟨⟨[awV], [], [], [awV]⟩, none⟩ N Q → Blk w' g 38 #[.slice A 1 c, .slice A2 1 c2] → w'.cell? ⟨g, 0, none⟩ = some (.slice A 1 c) ∧ w'.cell? ⟨g, 1, none⟩ = some (.slice A2 1 c2) ∧ w'.cell? ⟨n, 0, none⟩ = some (ptr l) from fun w' Q N h1 h2 => ⟨h2.cell 0, h2.cell 1, h1.cell0⟩)
  have BQ := hide (B5.out.ext hwq)
  have HQG := hide (show And' Q5 w5.heap.size wq.heap.size g from .inl (HQ5.out))
  have HM := hide (num_any 3 wq)
  unfold wpO
  refine ⟨_, rfl, ?_⟩
  go_wp2_with ((with_reducible refine HM.out.mono ?_); rintro e w6 ⟨rfl, x6⟩; have X6 := hide x6; clear x6)
  simp only [exL]
  refine ⟨HST.out _ _ _ (NQ.out.ext X6.out) (BQ.out.ext X6.out), ?_⟩
  have HA7 := hide (aw_arg w6)
  have E7 := hide (Ext.alloc w6 (.cells #[.int .i64 1, .int .i64 3, .string ⟨#[]⟩] 85))
  unfold wpO
  refine ⟨_, rfl, ?_⟩
  go_wp2_with fail
  simp only [exL]
  refine ⟨HST.out _ _ _ ((NQ.out.ext X6.out).ext E7.out) ((BQ.out.ext X6.out).ext E7.out), ?_⟩
  have hh := ((NQ.out.ext X6.out).ext E7.out).has (by decide) 1 HA7.out
  rw [show inB [awV] awV = true by kernel_rfl] at hh
  have HH := hide hh
  have B7 := hide ((BQ.out.ext X6.out).ext E7.out)
  have HG7 := hide (show And' (And' (And' Q5 w5.heap.size wq.heap.size) wq.heap.size w6.heap.size) w6.heap.size (w6.alloc (.cells #[.int .i64 1, .int .i64 3, .string ⟨#[]⟩] 85)).heap.size g from .inl (.inl HQG.out))
  clear hh NQ BQ HA7 E7 X6 HM hwq HQG
  generalize w6.alloc (.cells #[.int .i64 1, .int .i64 3, .string ⟨#[]⟩] 85) = w7 at *
  generalize And' (And' (And' Q5 w5.heap.size wq.heap.size) wq.heap.size w6.heap.size) w6.heap.size w7.heap.size = Q7 at *
  unfold wpO
  refine ⟨_, rfl, ?_⟩
  go_wp2_with ((with_reducible refine HH.out.mono ?_); rintro e w8 ⟨rfl, h8, k8⟩; have N8 := hide h8; have B8 := hide (k8.blk B7.out (fun hn => hn HG7.out)); clear h8 k8)
  simp only [exL]
  refine ⟨HST.out _ _ _ N8.out B8.out, ?_⟩
  have HS8 := hide N8.out.stored
  unfold wpO
  refine ⟨_, rfl, ?_⟩
  apply Exists.intro
  refine ⟨.inl ⟨by rfl, fun w9 h9 => ?_⟩, fun K hK => ?_⟩
  · go_simp; first | done | rfl
  go_simp; refine hK _ ?_; clear hK K
  unfold wpO
  refine ⟨_, rfl, ?_⟩
  apply Exists.intro
  refine ⟨.inl ⟨by rfl, fun w9 h9 => ?_⟩, fun K hK => ?_⟩
  · go_simp; first | done | rfl
  go_simp; refine hK _ ?_; clear hK K
  unfold wpO
  refine ⟨_, rfl, ?_⟩
  apply Exists.intro
  refine ⟨.inl ⟨by rfl, fun w9 h9 => ?_⟩, fun K hK => ?_⟩
  · go_simp; first | done | rfl
  go_simp; refine hK _ ?_; clear hK K
  unfold wpO
  refine ⟨_, rfl, ?_⟩
  go_wp2_with ((with_reducible refine HS8.out.mono ?_); rintro e w9 ⟨rfl, x9⟩; have X9 := hide x9; clear x9)
  simp only [exL]
  refine ⟨HST.out _ _ _ (N8.out.ext X9.out) (B8.out.ext X9.out), ?_⟩
  have HR9 := hide (N8.out.ext X9.out).rows
  have HG9 := hide (show And' Q7 w8.heap.size w9.heap.size g from .inl HG7.out)
  have B9 := hide (B8.out.ext X9.out)
  unfold wpO
  refine ⟨_, rfl, ?_⟩
  apply Exists.intro
  refine ⟨.inl ⟨by rfl, fun w9 h9 => ?_⟩, fun K hK => ?_⟩
  · go_simp; first | done | rfl
  go_simp; refine hK _ ?_; clear hK K
  unfold wpO
  refine ⟨_, rfl, ?_⟩
  apply Exists.intro
  refine ⟨.inl ⟨by rfl, fun w9 h9 => ?_⟩, fun K hK => ?_⟩
  · go_simp; first | done | rfl
  go_simp; refine hK _ ?_; clear hK K
  unfold wpO
  refine ⟨_, rfl, ?_⟩
  apply Exists.intro
  refine ⟨.inl ⟨by rfl, fun w9 h9 => ?_⟩, fun K hK => ?_⟩
  · go_simp; first | done | rfl
  go_simp; refine hK _ ?_; clear hK K
  unfold wpO
  refine ⟨_, rfl, ?_⟩
  apply Exists.intro
  refine ⟨.inl ⟨by rfl, fun w9 h9 => ?_⟩, fun K hK => ?_⟩
  · go_simp; first | done | rfl
  go_simp; refine hK _ ?_; clear hK K
  unfold wpO
  refine ⟨_, rfl, ?_⟩
  apply Exists.intro
  refine ⟨.inl ⟨by rfl, fun w9 h9 => ?_⟩, fun K hK => ?_⟩
  · go_simp; first | done | rfl
  go_simp; refine hK _ ?_; clear hK K
  unfold wpO
  refine ⟨_, rfl, ?_⟩
  apply Exists.intro
  refine ⟨.inl ⟨by rfl, fun w9 h9 => ?_⟩, fun K hK => ?_⟩
  · go_simp; first | done | rfl
  go_simp; refine hK _ ?_; clear hK K
  unfold wpO
  refine ⟨_, rfl, ?_⟩
  apply Exists.intro
  refine ⟨.inl ⟨by rfl, fun w9 h9 => ?_⟩, fun K hK => ?_⟩
  · go_simp; first | done | rfl
  go_simp; refine hK _ ?_; clear hK K
  unfold wpO
  refine ⟨_, rfl, ?_⟩
  go_wp2_with ((with_reducible refine HR9.out.mono ?_); rintro e w10 ⟨A10, c10, M10, rfl, -, h10, k10, -⟩; have N10 := hide h10; have B10 := hide (k10.blk B9.out (fun hn => hn HG9.out)); clear h10 k10)
  simp only [exL]
  refine ⟨HST.out _ _ _ N10.out B10.out, ?_⟩
  unfold wpO
  refine ⟨_, rfl, ?_⟩
  apply Exists.intro
  refine ⟨.inl ⟨by rfl, fun w9 h9 => ?_⟩, fun K hK => ?_⟩
  · go_simp; first | done | rfl
  go_simp; refine hK _ ?_; clear hK K
  unfold wpO
  refine ⟨_, rfl, ?_⟩
  apply Exists.intro
  refine ⟨.inl ⟨by rfl, fun w9 h9 => ?_⟩, fun K hK => ?_⟩
  · go_simp; first | done | rfl
  go_simp; refine hK _ ?_; clear hK K
  unfold wpO
  refine ⟨_, rfl, ?_⟩
  apply Exists.intro
  refine ⟨.inl ⟨by rfl, fun w9 h9 => ?_⟩, fun K hK => ?_⟩
  · go_simp; first | done | rfl
  go_simp; refine hK _ ?_; clear hK K
  unfold wpO
  refine ⟨_, rfl, ?_⟩
  apply Exists.intro
  refine ⟨.inl ⟨by rfl, fun w9 h9 => ?_⟩, fun K hK => ?_⟩
  · go_simp; first | done | rfl
  go_simp; refine hK _ ?_; clear hK K
  unfold wpO
  go_wp2_with fail
  go_ret
  exact ⟨rfl, N10.out.ext0⟩
end Go.Proofs.YtahdiiaadjdmcaaGreat

namespace Go.Proofs.YtahdiiaadjdmcaaGreat
open Go.RowKit

/-- a row of values of one's own, whatever they are -/
def RowM (w : World) (B : Nat → Prop) (A : Option Addr) (n c : Nat) : Prop := ∃ xs, OwnH w B 85 3 n (.slice A n c) xs
theorem RowM.any {w : World} {B : Nat → Prop} {A : Option Addr} {n c : Nat} (h : RowM w B A n c) (b j : Nat) (u : Value) : RowM (w.setCell ⟨b, j, none⟩ u) B A n c := by
  obtain ⟨xs, h⟩ := h
  rcases h.own.2 with h1 | ⟨g, cap, cur, h1, h2, h3, h4, h5, h6, h7⟩
  · exact ⟨xs, ⟨h.own.1, .inl h1⟩, h.inB⟩
  · have hb : Blk w g 85 cur := h3
    have hle : n * 3 ≤ cap * 3 := Nat.mul_le_mul_right _ h4
    by_cases hg : g = b
    · subst hg
      refine ⟨(cur.setIfInBounds j u).toList.take (n * 3), ⟨?_, .inr ⟨g, cap, _, h1, h2, hb.set_ j u, h4, h5, by rw [Array.size_setIfInBounds]; exact h6, rfl⟩⟩, h.inB⟩
      rw [List.length_take, Array.length_toList, Array.size_setIfInBounds, h6]; omega
    · exact ⟨xs, ⟨h.own.1, .inr ⟨g, cap, cur, h1, h2, hb.far (p := ⟨b, j, none⟩) hg u, h4, h5, h6, h7⟩⟩, h.inB⟩
theorem RowM.chg {w w' : World} {B C : Nat → Prop} {A : Option Addr} {n c : Nat} (h : RowM w B A n c) (hw : Chg C w w') (hC : ∀ g, B g → ¬ C g) : RowM w' B A n c := by
  obtain ⟨xs, h⟩ := h
  exact ⟨xs, h.chg hw hC⟩
theorem RowM.ext {w w' : World} {B : Nat → Prop} {A : Option Addr} {n c : Nat} (h : RowM w B A n c) (hw : Ext w w') : RowM w' B A n c := h.chg (C := fun _ => False) (Chg.of hw) fun _ _ x => x
theorem RowM.at3 {w : World} {B : Nat → Prop} {A : Option Addr} {n c : Nat} (h : RowM w B A n c) {i : Nat} (hi : i < n) : ∃ g u0 u1 u2, A = some ⟨g, 0, none⟩ ∧ B g ∧ w.cell? ⟨g, i * 3, none⟩ = some u0 ∧ w.cell? ⟨g, i * 3 + 1, none⟩ = some u1 ∧ w.cell? ⟨g, i * 3 + 2, none⟩ = some u2 ∧
    w.frozen? ⟨g, i * 3, none⟩ = false ∧ w.frozen? ⟨g, i * 3 + 1, none⟩ = false ∧ w.frozen? ⟨g, i * 3 + 2, none⟩ = false := by
  obtain ⟨xs, h⟩ := h
  rcases h.own.2 with ⟨-, h1⟩ | ⟨g, cap, cur, k1, k2, k3, k4, k5, k6, k7⟩
  · omega
  · injection k1 with k1
    subst k1
    have hb : Blk w g 85 cur := k3
    have hlt : i * 3 + 2 < cur.size := by rw [k6]; omega
    exact ⟨g, cur[i * 3], cur[i * 3 + 1], cur[i * 3 + 2], rfl, h.inB g rfl, by rw [hb.cell]; exact Array.getElem?_eq_getElem (by omega), by rw [hb.cell]; exact Array.getElem?_eq_getElem (by omega), by rw [hb.cell]; exact Array.getElem?_eq_getElem (by omega), hb.frozen _, hb.frozen _, hb.frozen _⟩
theorem MovedIn.tight {P : Nat → Prop} {T : Nat} {w : World} {F U : List (List V)} {y : Value} (h : MovedIn P T w F U y) : MovedIn (fun b => P b ∧ T ≤ b) T w F U y := by
  obtain ⟨A, c, A2, c2, X, Y, e, h1, h2, h3, h4⟩ := h
  exact ⟨A, c, A2, c2, X, Y, e, h1, h2, h3, fun b hb => ⟨h4 b hb, (h4 b hb).2⟩⟩
theorem MovedIn.low {P : Nat → Prop} {T S : Nat} {w : World} {F U : List (List V)} {y : Value} (h : MovedIn P T w F U y) (hS : S ≤ T) : MovedIn P S w F U y := by
  obtain ⟨A, c, A2, c2, X, Y, e, h1, h2, h3, h4⟩ := h
  exact ⟨A, c, A2, c2, X, Y, e, h1, h2, h3, fun b hb => ⟨(h4 b hb).1, Nat.le_trans hS (h4 b hb).2⟩⟩
theorem MovedIn.two {P : Nat → Prop} {T : Nat} {w : World} {F U : List (List V)} {y : Value} (h : MovedIn P T w F U y) : ∃ A1 n1 c1 A2 n2 c2, y = .agg #[.slice A1 n1 c1, .slice A2 n2 c2] := by
  obtain ⟨A, c, A2, c2, X, Y, e, -⟩ := h
  exact ⟨_, _, _, _, _, _, e⟩
set_option maxRecDepth 100000 in
set_option maxHeartbeats 4000000 in
theorem turn_any {w0 w : World} {n l : Nat} {K : NK} {a : NAbs} {N : Nat} {P : Nat → Prop} (h : NP w0 w n l K a N P) (hN : N + 1048576 ≤ 8796093022208) (kind from_ : Int) {r : List V} {A : Option Addr} {m : Nat} (c : Nat) (ha : ArgR w0 A m r) :
    Calls Tryz.prog 11 #[.pointer (some ⟨n, 0, none⟩), .agg #[.int .i64 kind, .int .i64 from_, .slice A m c]] w (TurnP w0 w n l K a N P (turnN K a.now (decide (kind = 1)) from_ r)) := by
  obtain ⟨g, hg⟩ : ∃ g, w.heap.size = g := ⟨_, rfl⟩
  obtain ⟨w1, hw1⟩ : ∃ w1, (w.alloc (.cells #[.int .i64 kind, .int .i64 from_, .slice A m c] 30)).alloc (.cells #[.slice none 0 0, .slice none 0 0] 38) = w1 := ⟨_, rfl⟩
  have hb := (Blk.new w 30 #[.int .i64 kind, .int .i64 from_, .slice A m c]).ext (Ext.alloc _ (.cells #[.slice none 0 0, .slice none 0 0] 38))
  have hz := Blk.new (w.alloc (.cells #[.int .i64 kind, .int .i64 from_, .slice A m c] 30)) 38 #[.slice none 0 0, .slice none 0 0]
  have he := (Ext.alloc w (.cells #[.int .i64 kind, .int .i64 from_, .slice A m c] 30)).alloc' (.cells #[.slice none 0 0, .slice none 0 0] 38)
  rw [World.size_alloc] at hz
  rw [hw1] at hb he hz
  rw [hg] at hb hz
  have HE := hide he; have HZ := hide hz; have HB := hide hb; have HGE := hide hg
  have b2 : w1.cell? ⟨g, 2, none⟩ = some (.slice A m c) := hb.cell 2
  have HNP := hide h
  obtain ⟨z, hz2⟩ : ∃ z, decide (kind = 1) = z := ⟨_, rfl⟩
  rw [hz2]
  have HZ2 := hide hz2
  obtain ⟨t, ht⟩ : ∃ t, turnN K a.now z from_ r = t := ⟨_, rfl⟩
  rw [ht]
  have HT := hide ht
  clear ht hz2
  have hl := ha.len
  have HCP := hide (copy_any r A m c w1 ((ha.ext h.ext0).ext he).at_ (by omega))
  have HA := hide ha
  clear h hb he hz ha
  go_enter Tryz.func11, Tryz.ntmps11
  go_upto_region 2 with ((with_reducible refine HCP.out.mono ?_); rintro e w2 ⟨A2, c2, rfl, h2, x2⟩; have O2 := hide h2; have X2 := hide x2; clear h2 x2)
  obtain ⟨g7, hg7⟩ : ∃ g7, w2.heap.size = g7 := ⟨_, rfl⟩
  obtain ⟨w3, hw3⟩ : ∃ w3, w2.alloc (.cells #[.slice none 0 0, .slice none 0 0] 38) = w3 := ⟨_, rfl⟩
  have hb3 := Blk.new w2 38 #[.slice none 0 0, .slice none 0 0]
  have he3 := Ext.alloc w2 (.cells #[.slice none 0 0, .slice none 0 0] 38)
  rw [hw3] at hb3 he3
  rw [hg7] at hb3
  have HB3 := hide hb3; have X3 := hide he3
  have hop := HB.out.ext (X2.out.trans he3)
  have HOP := hide hop
  have o0 : w3.cell? ⟨g, 0, none⟩ = some (.int .i64 kind) := hop.cell 0
  have o1 : w3.cell? ⟨g, 1, none⟩ = some (.int .i64 from_) := hop.cell 1
  have hE3 := (HE.out.trans X2.out).trans he3
  have hnp := HNP.out.ext hE3
  have HP3 := hide (fun b (hb : w.heap.size ≤ b ∧ b < w3.heap.size) => (show And' P w.heap.size w3.heap.size b from .inr hb))
  have HP3' := hide (show ∀ b, And' P w.heap.size w3.heap.size b → P b ∨ w.heap.size ≤ b from fun b hb => hb.imp id And.left)
  have HPP := hide (show ∀ b, P b → And' P w.heap.size w3.heap.size b from fun b hb => .inl hb)
  obtain ⟨P3, hP3⟩ : ∃ P3, And' P w.heap.size w3.heap.size = P3 := ⟨_, rfl⟩
  rw [hP3] at hnp HP3 HP3' HPP
  have HN3 := hide hnp
  have HGG := hide (show w.heap.size ≤ g ∧ g + 2 ≤ g7 ∧ w1.heap.size = g + 2 ∧ w3.heap.size = g7 + 1 from by
    have h1 := X2.out.size
    have h2 : w1.heap.size = g + 2 := by rw [← hw1]; simp; omega
    have h3 : w3.heap.size = g7 + 1 := by rw [← hw3]; simp; omega
    omega)
  have hin : ArgR w3 A2 m r := ⟨RowAt.own (hid_keep O2.out he3), hl, HA.out.small, HA.out.wf⟩
  have HIN := hide hin
  have HINB := hide (show ∀ x, A2 = some x → w1.heap.size ≤ x.block ∧ x.block < g7 from fun x hx => hg7 ▸ O2.out.lt x.block (by rw [hx]; rfl))
  have HRM := hide (show RowM w3 (fun b => w1.heap.size ≤ b ∧ b < g7) A2 m c2 from ⟨_, hid_keep (own_base0 O2.out (Nat.zero_le _)) he3, fun g hg => hg7 ▸ O2.out.lt g hg⟩)
  have HON := hide (show Calls Tryz.prog (if z then 33 else 35) #[.pointer (some ⟨n, 0, none⟩), .int .i64 from_, .slice A2 m c2] w3 (TurnP w0 w3 n l K a N P3 t) from by
    have e := HT.out
    subst e
    have hA : ∀ x, A2 = some x → P3 x.block := fun x hx => HP3.out _ (by have := HINB.out x hx; have := HGG.out; omega)
    cases z
    · exact hnp.off hN from_ c2 hin hA
    · exact hnp.on hN from_ c2 hin hA)
  clear hb3 he3 hop hE3 hnp hP3 hin HCP
  have HG7 := hide hg7; have HW3 := hide hw3
  clear hw3 hg7 hw1
  go_upto_region 3 with fail
  rw [HG7.out, HW3.out]
  clear b2 HW3
  clear HB
  cases z
  case' true =>
    obtain rfl : kind = 1 := of_decide_eq_true HZ2.out
    simp only [if_true] at HON
    go_upto_region 5 with fail
    refine HON.out.mono ?_
    rintro e w4 ⟨y, Q, rfl, h1, h2, h3, h4, h5⟩
    obtain ⟨Ay, ny, cy, Az, nz, cz, rfl⟩ := h5.two
    have N4 := hide h1; have K4 := hide h2; have PQ := hide h3; have QP := hide h4; have M4 := hide h5
    clear h1 h2 h3 h4 h5 HON
    have B4 := hide (K4.out.blk HB3.out (fun hn => hn (HP3.out _ (by have := HGG.out; omega))))
    have c70 : w4.cell? ⟨g7, 0, none⟩ = some (.slice none 0 0) := B4.out.cell 0
    have c71 : w4.cell? ⟨g7, 1, none⟩ = some (.slice none 0 0) := B4.out.cell 1
    have f70 := B4.out.frozen 0
    have f71 := B4.out.frozen 1
    go_upto_region 6 with fail
  case' false =>
    have hk1 : (kind == 1) = false := by have := of_decide_eq_false HZ2.out; simpa using this
    simp only [if_false, Bool.false_eq_true] at HON
    go_upto_region 6 with fail
    refine HON.out.mono ?_
    rintro e w4 ⟨y, Q, rfl, h1, h2, h3, h4, h5⟩
    obtain ⟨Ay, ny, cy, Az, nz, cz, rfl⟩ := h5.two
    have N4 := hide h1; have K4 := hide h2; have PQ := hide h3; have QP := hide h4; have M4 := hide h5
    clear h1 h2 h3 h4 h5 HON
    have B4 := hide (K4.out.blk HB3.out (fun hn => hn (HP3.out _ (by have := HGG.out; omega))))
    have c70 : w4.cell? ⟨g7, 0, none⟩ = some (.slice none 0 0) := B4.out.cell 0
    have c71 : w4.cell? ⟨g7, 1, none⟩ = some (.slice none 0 0) := B4.out.cell 1
    have f70 := B4.out.frozen 0
    have f71 := B4.out.frozen 1
    go_upto_region 6 with fail
  all_goals (
    have B5 := hide ((B4.out.set_ 0 (.slice Ay ny cy)).set_ 1 (.slice Az nz cz))
    have C5 := hide ((Chg.refl (fun b => b = g7) w4).setCell (p := ⟨g7, 0, none⟩) (.inl rfl) (.slice Ay ny cy) |>.setCell (p := ⟨g7, 1, none⟩) (.inl rfl) (.slice Az nz cz))
    generalize (w4.setCell ⟨g7, 0, none⟩ (.slice Ay ny cy)).setCell ⟨g7, 1, none⟩ (.slice Az nz cz) = w5 at *
    have B5 := hide (show Blk w5 g7 38 #[.slice Ay ny cy, .slice Az nz cz] from B5.out)
    have hg7 := HGG.out
    have N5 := hide (N4.out.chgP C5.out (fun b hb => PQ.out b (HP3.out b (by omega))) (fun b hb => by have := HNP.out.size0; omega))
    have M5 := hide (M4.out.tight.chg C5.out (fun b hb hn => by have := hb.2; omega) (Q := Q) fun b hb => hb.1)
    have hin5 : ArgR w5 A2 m r := (HIN.out.chg (fun x hx hn => hn (HP3.out _ (by have := HINB.out x hx; omega))) K4.out).chg (fun x hx hn => by have := HINB.out x hx; omega) C5.out
    have hrm5 := hide ((HRM.out.chg K4.out (fun b hb hn => hn (HP3.out _ (by omega)))).chg C5.out (fun b hb hn => by omega))
    have HSM := hide (same_any r r A2 A m m c2 c w5 hin5.at_ (HA.out.ext N5.out.ext0).at_ (by omega))
    rw [sameR_self] at HSM
    have hx5 := (K4.out.blk (HOP.out) (fun hn => hn (HP3.out _ (by omega))))
    have hx5 := C5.out.blk hx5 (by omega)
    have o2 : w5.cell? ⟨g, 2, none⟩ = some (.slice A m c) := hx5.cell 2
    clear hin5 hx5 hg7 c70 c71 f70 f71
    go_upto_region 8 with ((with_reducible refine HSM.out.mono ?_); rintro e w6 ⟨rfl, x6⟩; have X6 := hide x6; clear x6)
    have N6 := hide (N5.out.ext X6.out)
    have M6 := hide (M5.out.ext X6.out (Q := And' (And' Q w4.heap.size w5.heap.size) w5.heap.size w6.heap.size) fun b hb => .inl (.inl hb))
    have R6 := hide (hrm5.out.ext X6.out)
    have hz6 : Blk w6 (g + 1) 38 #[.slice none 0 0, .slice none 0 0] := (C5.out.blk (K4.out.blk (HZ.out.ext (X2.out.trans X3.out)) (fun hn => hn (HP3.out _ (by have := HGG.out; omega)))) (by have := HGG.out; omega)).ext X6.out
    have Z6 := hide hz6
    have B6 := hide (B5.out.ext X6.out)
    have HQB := hide (show ∀ b, And' (And' Q w4.heap.size w5.heap.size) w5.heap.size w6.heap.size b → P b ∨ w.heap.size ≤ b from fun b hb => by
      have h1 := K4.out.size; have h2 := C5.out.size; have h3 := HGG.out
      rcases hb with (hb | hb) | hb
      · exact (QP.out b hb).elim (fun hx => HP3'.out b hx) fun hx => .inr (by omega)
      · exact .inr (by omega)
      · exact .inr (by omega))
    have HPQ := hide (show ∀ b, P3 b → And' (And' Q w4.heap.size w5.heap.size) w5.heap.size w6.heap.size b from fun b hb => .inl (.inl (PQ.out b hb)))
    have KK := hide (show Keeps P w w6 from by
      refine (Chg.of ((HE.out.trans X2.out).trans X3.out)).trans (C := fun b => ¬ P b) ?_ fun b hb _ => hb
      refine (K4.out.mono fun b hb _ hp => hb (HPP.out b hp)).trans (C := fun b => ¬ P b) ?_ fun b hb _ => hb
      refine (C5.out.mono fun b hb _ hp => ?_).trans (Chg.of X6.out) fun b hb _ => hb
      have := HNP.out.lt b hp; have := HGG.out; omega)
    clear hz6 N5 M5 C5 K4 N4 M4 B4 B5 hrm5 HIN HRM HOP o2 HSM PQ QP
    generalize And' (And' Q w4.heap.size w5.heap.size) w5.heap.size w6.heap.size = Q6 at *
    go_wp2_with fail
    go_loopw [9, 41] (fun _ s41 w' => ∃ i : Nat, i ≤ m ∧ s41 = .int .i64 i ∧ Hid (RowM w' (fun b => w1.heap.size ≤ b ∧ b < g7) A2 m c2) ∧ Hid (Chg (fun b => w1.heap.size ≤ b ∧ b < g7) w6 w')) (fun _ s41 _ => m - (intOf s41).toNat)
    case atStart => exact ⟨0, by omega, rfl, R6, Chg.refl _ _⟩
    case round =>
      clear R6
      obtain ⟨i, him, rfl, hR, hC⟩ := hrel
      by_cases hi : i < m
      · have hi2 : (i : Int) < (m : Int) := by omega
        have HNM := hide (num_any 1099511627776 wr)
        go_upto_region 12 with ((with_reducible refine HNM.out.mono ?_); rintro e w7 ⟨rfl, x7⟩; have R7 := hide (hR.out.ext x7); have C7 := hide (hC.out.trans (Chg.of x7) fun _ h _ => h); clear x7; obtain ⟨gk, u0, u1, u2, hA, hB, k0, k1, k2, f0, f1, f2⟩ := R7.out.at3 hi; subst hA)
        have R8 := hide (((R7.out.any gk (i * 3) (.int .i64 1)).any gk (i * 3 + 1) (.int .i64 1099511627776)).any gk (i * 3 + 2) (.string ⟨#[]⟩))
        have C8 := hide (((C7.out.setCell (p := ⟨gk, i * 3, none⟩) (.inl hB) (.int .i64 1)).setCell (p := ⟨gk, i * 3 + 1, none⟩) (.inl hB) (.int .i64 1099511627776)).setCell (p := ⟨gk, i * 3 + 2, none⟩) (.inl hB) (.string ⟨#[]⟩))
        clear R7 C7 hR hC k0 k1 k2 f0 f1 f2 hB
        go_wp2_with fail
        go_roundw
        case rel => exact ⟨i + 1, by omega, by go_num, R8, C8⟩
        case measure => simp [intOf]; omega
      · obtain rfl : i = m := by omega
        have h3 := HGG.out
        have NR := hide (N6.out.chgP hC.out (fun b hb => HPQ.out b (HP3.out b (by omega))) (fun b hb => by have := HNP.out.size0; omega))
        have MR := hide (M6.out.tight.chg hC.out (fun b hb hn => by have := hb.2; omega) (Q := And' Q6 w6.heap.size wr.heap.size) fun b hb => .inl hb.1)
        have ZR := hide (hC.out.blk Z6.out (by omega))
        have BR := hide (hC.out.blk B6.out (by omega))
        have KR := hide (show Keeps P w wr from KK.out.trans (C := fun b => ¬ P b) (hC.out.mono fun b hb _ hp => by have := HNP.out.lt b hp; omega) fun b hb _ => hb)
        have HSZ := hide (show w6.heap.size ≤ wr.heap.size ∧ w3.heap.size ≤ w6.heap.size ∧ w.heap.size ≤ wr.heap.size from ⟨hC.out.size, by
          have h1 := N6.out.lt
          have := h1 g7 (HPQ.out g7 (HP3.out g7 (by omega)))
          omega, KR.out.size⟩)
        have c70 : wr.cell? ⟨g7, 0, none⟩ = some (.slice Ay ny cy) := BR.out.cell 0
        have c71 : wr.cell? ⟨g7, 1, none⟩ = some (.slice Az nz cz) := BR.out.cell 1
        have z0 : wr.cell? ⟨g + 1, 0, none⟩ = some (.slice none 0 0) := ZR.out.cell 0
        have z1 : wr.cell? ⟨g + 1, 1, none⟩ = some (.slice none 0 0) := ZR.out.cell 1
        have f0 := ZR.out.frozen 0
        have f1 := ZR.out.frozen 1
        clear hC hR h3
        go_wp2_with fail
        have R := two_cells ZR.out (.slice Ay ny cy) (.slice Az nz cz)
        have r0 := R.cell 0
        have r1 := R.cell 1
        refine bodyPost_ret (v := .tuple #[.agg #[.slice Ay ny cy, .slice Az nz cz], .int .i64 t.2.2.2]) (by simp [results, Tryz.results11, go_sem, r0, r1]) rfl ?_
        have h3 := HGG.out; have h4 := HSZ.out; have hg1 := HGE.out
        have C9 := hide ((Chg.refl (fun b => b = g + 1) wr).setCell (p := ⟨g + 1, 0, none⟩) (.inl rfl) (.slice Ay ny cy) |>.setCell (p := ⟨g + 1, 1, none⟩) (.inl rfl) (.slice Az nz cz))
        generalize (wr.setCell ⟨g + 1, 0, none⟩ (.slice Ay ny cy)).setCell ⟨g + 1, 1, none⟩ (.slice Az nz cz) = w9 at C9 ⊢
        have N9 := NR.out.chgP C9.out (fun b hb => .inl (HPQ.out b (HP3.out b (by omega)))) (fun b hb => by have := HNP.out.size0; omega)
        have M9 := MR.out.tight.chg C9.out (fun b hb hn => by have := hb.2; omega) (Q := And' (And' Q6 w6.heap.size wr.heap.size) wr.heap.size w9.heap.size) fun b hb => .inl hb.1
        refine ⟨_, _, rfl, N9, ?_, ?_, ?_, M9.low (by omega)⟩
        · exact KR.out.trans (C := fun b => ¬ P b) (C9.out.mono fun b hb _ hp => by have := HNP.out.lt b hp; omega) fun b hb _ => hb
        · exact fun b hb => .inl (.inl (HPQ.out b (HPP.out b hb)))
        · rintro b ((hb | hb) | hb)
          · exact HQB.out b hb
          · exact .inr (by omega)
          · exact .inr (by omega))
end Go.Proofs.YtahdiiaadjdmcaaGreat
