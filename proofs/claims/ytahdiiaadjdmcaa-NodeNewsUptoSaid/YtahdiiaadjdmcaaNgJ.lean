/-
  A region that draws its order, in whatever line one likes: operations that yield one value in every world that meets St may be taken ahead, as soon as they are ready; the others when they are the only ones.
  law of node: awake.
  law of node: turn.
-/
import Derived.Test.YtahdiiaadjdmcaaGbD
import Derived.Test.YtahdiiaadjdmcaaNgH
import Derived.Test.YtahdiiaadjdmcaaNgI
namespace Go.Proofs.Ytahdiiaadjdmcaa
open Go.RowKit

def ordB (md : Region.Mode) (ops : Array Oper) : List (Nat × Bool) → Array Bool → Bool
  | [], listed => (Region.ready md ops listed).isEmpty
  | (k, true) :: ks, listed => (Region.ready md ops listed).contains k && Region.free md ops listed k && ordB md ops ks (listed.setIfInBounds k true)
  | (k, false) :: ks, listed => decide (Region.ready md ops listed = [k]) && ordB md ops ks (listed.setIfInBounds k true)
def ordA (ops : Array Oper) (ks : List (Nat × Bool)) : Bool := decide (ks.length = ops.size) && Region.noSelect ops && ordB .any ops ks (Array.replicate ops.size false)
def wpO (P : Program) (ops : Array Oper) (Q : Exit → Act → World → Prop) (St : World → Prop) : List (Nat × Bool) → Act → World → Prop
  | [], a, w => Q .normal a w
  | (k, true) :: ks, a, w => ∃ o, ops[k]? = some o ∧ ∃ v, YieldsIf P ops St o v a ∧ ∀ K : Act → Prop, (∀ a, wpO P ops Q St ks a w → K a) → K (a.put o.dst v)
  | (k, false) :: ks, a, w => ∃ o, ops[k]? = some o ∧ wpList P ops (exL Q St (wpO P ops Q St ks)) [o] a w
section
variable {P : Program} {ops : Array Oper} {md : Region.Mode} {Q : Exit → Act → World → Prop} {St : World → Prop}
theorem wpAnyH_of_O (hQ : ∀ c (d : Tmp) v (a : Act) w, Q (.panic c) (a.put (some d) v) w → Q (.panic c) a w) (hns : Region.noSelect ops = true) :
    ∀ (ks : List (Nat × Bool)) (listed : Array Bool) (a : Act) (w : World), ordB md ops ks listed = true → St w → wpO P ops Q St ks a w → wpAnyH P md ops Q St ks.length listed a w
  | [], listed, a, w, hB, hS, h => by
    simp only [ordB, List.isEmpty_iff] at hB
    exact ⟨hB, h⟩
  | (k, true) :: ks, listed, a, w, hB, hS, ⟨o, h0, v, hv, h⟩ => by
    simp only [ordB, Bool.and_eq_true] at hB
    obtain ⟨⟨hr, hf⟩, hB'⟩ := hB
    exact wpAnyH_take h0 hns hf hr (fun c a w => by cases o.dst with | none => exact id | some d => exact hQ c d v a w) hv hS (wpAnyH_of_O hQ hns ks _ _ w hB' hS (h (fun a => wpO P ops Q St ks a w) fun a h => h))
  | (k, false) :: ks, listed, a, w, hB, hS, ⟨o, h0, h⟩ => by
    simp only [ordB, Bool.and_eq_true, decide_eq_true_eq] at hB
    refine wpAnyH_all hB.1 (by simp) fun i hi => ?_
    obtain rfl := List.mem_singleton.1 hi
    refine wpOp_mono (fun a2 w2 h5 => ⟨h5.1, ?_⟩) (wp_exL h h0)
    exact wpAnyH_of_O hQ hns ks _ _ w2 hB.2 h5.1 h5.2
theorem wp_region_ord {id : Nat} {a : Act} {w : World} {l : List Oper} (ks : List (Nat × Bool)) (St : World → Prop) (hm : P.follows .mixedOrders = true) (hB : ordA l.toArray ks = true) (hQ : ∀ c (d : Tmp) v (a : Act) w, Q (.panic c) (a.put (some d) v) w → Q (.panic c) a w) (hSt : ∀ w', Ext w w' → St w')
    (h : ∀ w', Ext w w' → wpO P l.toArray Q St ks a w') : (Code.region id l.toArray true).wp P Q a w := by
  simp only [ordA, Bool.and_eq_true, decide_eq_true_eq] at hB
  obtain ⟨⟨hlen, hns⟩, hB⟩ := hB
  refine wp_region_held (S := St) hm ?_
  have hw1 : Ext w { w with drawn := w.drawn + 1 } := Ext.drew w
  have h1 := wpAnyH_of_O hQ hns ks _ a _ hB (hSt _ hw1) (h _ hw1)
  rw [hlen] at h1
  exact h1
end
end Go.Proofs.Ytahdiiaadjdmcaa

namespace Go.Proofs.Ytahdiiaadjdmcaa
open Go.RowKit

set_option maxRecDepth 100000 in
theorem num_any (n : Int) (w : World) : Calls Try.prog 13 #[.int .i64 n] w fun e w' => e = .returned (.agg #[.int .i64 1, .int .i64 n, .string ⟨#[]⟩]) ∧ Ext w w' := by
  have HE := hide ((Ext.alloc w (.cells #[.int .i64 1, .int .i64 n, .string ⟨#[]⟩] 59)))
  go_enter Try.func13, Try.ntmps13
  go_wp2_with fail
  refine bodyPost_ret (v := .agg #[.int .i64 1, .int .i64 n, .string ⟨#[]⟩]) (by simp [results, Try.results13, go_sem]) rfl ?_
  exact ⟨rfl, HE.out⟩
def awS : SP := ⟨1, 1, [], [], [], 1⟩
def awL : SPL := ⟨none, 0, none, 0, none, 0⟩
def awV : List V := [⟨1, 3, .empty⟩]
theorem aw_spec (w : World) : SpecAt w awS awL := ⟨⟨rfl, Sl.nil w none 1⟩, ⟨rfl, Sl.nil w none 1⟩, ⟨rfl, Sl.nil w none 1⟩, by decide, by decide, by decide⟩
theorem aw_good : awS.good = true := by kernel_rfl
theorem aw_turn : turnN (nkOf awS) emptyN.now true 1 awV = (⟨[awV], [], [], [awV]⟩, [awV], [awV], 0) := by kernel_rfl
theorem aw_arg (w : World) : ArgR (w.alloc (.cells #[.int .i64 1, .int .i64 3, .string ⟨#[]⟩] 59)) (some ⟨w.heap.size, 0, none⟩) 1 awV := by
  refine ⟨RowAt.lit w awV 59, by decide, ?_, ?_⟩
  · intro v hv
    obtain rfl := List.mem_singleton.1 hv
    decide
  · intro v hv
    obtain rfl := List.mem_singleton.1 hv
    decide
set_option maxRecDepth 100000 in
set_option maxHeartbeats 4000000 in
theorem awake_nd (w : World) : Calls Try.prog 5 #[] w fun e w' => e = .returned (.bool true) ∧ Ext w w' := by
  have HN := hide (show Calls Try.prog 9 #[.agg #[.int .i64 1, .int .i64 1, .slice none 0 0, .slice none 0 0, .slice none 0 0, .int .i64 1]] w fun e w' => ∃ n l, e = .returned (.tuple #[.pointer (some ⟨n, 0, none⟩), .int .i64 0]) ∧ NP w w' n l (nkOf awS) emptyN 262144 fun _ => False from (new_any (aw_spec w)).mono fun e w' hh => by
    obtain ⟨h1, ⟨h2, -⟩ | ⟨-, n, B, h3, h4, h5, -⟩⟩ := hh
    · rw [aw_good] at h2; cases h2
    · obtain ⟨l, hl⟩ := NP.of h4 h5 h1
      exact ⟨n, l, h3, hl⟩)
  go_enter Try.func5, Try.ntmps5
  go_upto_region 4 with ((with_reducible refine HN.out.mono ?_); rintro e w1 ⟨n, l, rfl, h1⟩; have N1 := hide h1; clear h1)
  have HM := hide (num_any 3 w1)
  go_upto_region 5 with ((with_reducible refine HM.out.mono ?_); rintro e w2 ⟨rfl, x2⟩; have X2 := hide x2; clear x2)
  have HO := hide ((((N1.out.ext X2.out).ext (Ext.alloc w2 (.cells #[.int .i64 1, .int .i64 3, .string ⟨#[]⟩] 59))).on (by decide) 1 1 (aw_arg w2) (fun x hx => by obtain rfl := Option.some.inj hx; exact .inr ⟨Nat.le_refl _, by simp⟩)).mono (R' := fun e w' => ∃ A c A2 c2 Q, e = .returned (.tuple #[.agg #[.slice A 1 c, .slice A2 1 c2], .int .i64 0]) ∧ NP w w' n l (nkOf awS) ⟨⟨[awV], [], [], [awV]⟩, none⟩ 1310720 Q) fun e w' hh => by
    rw [aw_turn] at hh
    obtain ⟨y, Q, rfl, h1, -, -, -, A, c, A2, c2, X, Y, rfl, -⟩ := hh
    exact ⟨A, c, A2, c2, Q, rfl, h1⟩)
  refine HO.out.mono ?_
  rintro e w4 ⟨A, c, A2, c2, Q, rfl, h4⟩
  have N4 := hide h4
  clear h4 HO N1 HM HN X2
  obtain ⟨g, hg⟩ : ∃ g, w4.heap.size = g := ⟨_, rfl⟩
  have HG := hide hg
  have hb := Blk.new w4 53 #[.slice A 1 c, .slice A2 1 c2]
  have he := Ext.alloc w4 (.cells #[.slice A 1 c, .slice A2 1 c2] 53)
  have HQ5 := hide (show And' Q w4.heap.size (w4.alloc (.cells #[.slice A 1 c, .slice A2 1 c2] 53)).heap.size g from .inr ⟨by omega, by simp; omega⟩)
  rw [hg] at hb
  clear hg
  go_upto_region 5 with fail
  rw [HG.out]
  have N5 := hide (N4.out.ext he)
  have B5 := hide hb
  clear hb he N4 HG
  generalize w4.alloc (.cells #[.slice A 1 c, .slice A2 1 c2] 53) = w5 at *
  generalize And' Q w4.heap.size w5.heap.size = Q5 at *
  refine wp_region_ord [(0, true), (1, true), (2, true), (3, true), (4, true), (5, true), (6, true), (7, true), (8, true), (9, true), (10, true), (11, true), (12, true), (13, true), (14, true), (15, true), (16, true), (17, true), (18, true), (19, false), (20, false), (21, false), (22, true), (23, true), (24, true), (25, false), (26, true), (27, true), (28, true), (29, true), (30, true), (31, true), (32, true), (33, false), (34, true), (35, true), (36, true), (37, true)] (fun w' => w'.cell? ⟨g, 0, none⟩ = some (.slice A 1 c) ∧ w'.cell? ⟨g, 1, none⟩ = some (.slice A2 1 c2) ∧ w'.cell? ⟨n, 0, none⟩ = some (ptr l)) (by kernel_rfl) (by kernel_rfl) (fun _ _ _ _ _ h => h) ?_ ?_
  · exact fun w' hw' => ⟨(B5.out.ext hw').cell 0, (B5.out.ext hw').cell 1, hw'.cell N5.out.cell0⟩
  intro wq hwq
  have NQ := hide (N5.out.ext hwq)
  unfold wpO
  refine ⟨_, rfl, ?_⟩
  apply Exists.intro
  refine ⟨.inl ⟨by rfl, fun w9 h9 => ?_⟩, fun K hK => ?_⟩
  · go_simp; first | done | rfl
  go_simp; refine hK _ ?_; clear hK K
  unfold wpO
  refine ⟨_, rfl, ?_⟩
  apply Exists.intro
  refine ⟨.inl ⟨by rfl, fun w9 h9 => ?_⟩, fun K hK => ?_⟩
  · go_simp; first | done | rfl
  go_simp; refine hK _ ?_; clear hK K
  unfold wpO
  refine ⟨_, rfl, ?_⟩
  apply Exists.intro
  refine ⟨.inl ⟨by rfl, fun w9 h9 => ?_⟩, fun K hK => ?_⟩
  · go_simp; first | done | rfl
  go_simp; refine hK _ ?_; clear hK K
  unfold wpO
  refine ⟨_, rfl, ?_⟩
  apply Exists.intro
  refine ⟨.inl ⟨by rfl, fun w9 h9 => ?_⟩, fun K hK => ?_⟩
  · go_simp; first | done | rfl
  go_simp; refine hK _ ?_; clear hK K
  unfold wpO
  refine ⟨_, rfl, ?_⟩
  apply Exists.intro
  refine ⟨.inl ⟨by rfl, fun w9 h9 => ?_⟩, fun K hK => ?_⟩
  · go_simp; first | done | rfl
  go_simp; refine hK _ ?_; clear hK K
  unfold wpO
  refine ⟨_, rfl, ?_⟩
  apply Exists.intro
  refine ⟨.inl ⟨by rfl, fun w9 h9 => ?_⟩, fun K hK => ?_⟩
  · go_simp; first | done | rfl
  go_simp; refine hK _ ?_; clear hK K
  unfold wpO
  refine ⟨_, rfl, ?_⟩
  apply Exists.intro
  refine ⟨.inl ⟨by rfl, fun w9 h9 => ?_⟩, fun K hK => ?_⟩
  · go_simp; first | done | rfl
  go_simp; refine hK _ ?_; clear hK K
  unfold wpO
  refine ⟨_, rfl, ?_⟩
  apply Exists.intro
  refine ⟨.inl ⟨by rfl, fun w9 h9 => ?_⟩, fun K hK => ?_⟩
  · go_simp; first | done | rfl
  go_simp; refine hK _ ?_; clear hK K
  unfold wpO
  refine ⟨_, rfl, ?_⟩
  apply Exists.intro
  refine ⟨.inl ⟨by rfl, fun w9 h9 => ?_⟩, fun K hK => ?_⟩
  · go_simp; first | done | rfl
  go_simp; refine hK _ ?_; clear hK K
  unfold wpO
  refine ⟨_, rfl, ?_⟩
  apply Exists.intro
  refine ⟨.inl ⟨by rfl, fun w9 h9 => ?_⟩, fun K hK => ?_⟩
  · go_simp; first | done | rfl
  go_simp; refine hK _ ?_; clear hK K
  unfold wpO
  refine ⟨_, rfl, ?_⟩
  apply Exists.intro
  refine ⟨.inl ⟨by rfl, fun w9 h9 => ?_⟩, fun K hK => ?_⟩
  · go_simp; first | done | rfl
  go_simp; refine hK _ ?_; clear hK K
  unfold wpO
  refine ⟨_, rfl, ?_⟩
  apply Exists.intro
  refine ⟨.inl ⟨by rfl, fun w9 h9 => ?_⟩, fun K hK => ?_⟩
  · go_simp; first | done | rfl
  go_simp; refine hK _ ?_; clear hK K
  unfold wpO
  refine ⟨_, rfl, ?_⟩
  apply Exists.intro
  refine ⟨.inl ⟨by rfl, fun w9 h9 => ?_⟩, fun K hK => ?_⟩
  · go_simp; first | done | rfl
  go_simp; refine hK _ ?_; clear hK K
  unfold wpO
  refine ⟨_, rfl, ?_⟩
  apply Exists.intro
  refine ⟨.inl ⟨by rfl, fun w9 h9 => ?_⟩, fun K hK => ?_⟩
  · go_simp; first | done | rfl
  go_simp; refine hK _ ?_; clear hK K
  unfold wpO
  refine ⟨_, rfl, ?_⟩
  apply Exists.intro
  refine ⟨.inl ⟨by rfl, fun w9 h9 => ?_⟩, fun K hK => ?_⟩
  · go_simp; first | done | rfl
  go_simp; refine hK _ ?_; clear hK K
  unfold wpO
  refine ⟨_, rfl, ?_⟩
  apply Exists.intro
  refine ⟨.inl ⟨by rfl, fun w9 h9 => ?_⟩, fun K hK => ?_⟩
  · go_simp; first | done | rfl
  go_simp; refine hK _ ?_; clear hK K
  unfold wpO
  refine ⟨_, rfl, ?_⟩
  apply Exists.intro
  refine ⟨.inl ⟨by rfl, fun w9 h9 => ?_⟩, fun K hK => ?_⟩
  · go_simp; first | done | rfl
  go_simp; refine hK _ ?_; clear hK K
  unfold wpO
  refine ⟨_, rfl, ?_⟩
  apply Exists.intro
  refine ⟨.inl ⟨by rfl, fun w9 h9 => ?_⟩, fun K hK => ?_⟩
  · go_simp; first | done | rfl
  go_simp; refine hK _ ?_; clear hK K
  unfold wpO
  refine ⟨_, rfl, ?_⟩
  apply Exists.intro
  refine ⟨.inl ⟨by rfl, fun w9 h9 => ?_⟩, fun K hK => ?_⟩
  · go_simp; first | done | rfl
  go_simp; refine hK _ ?_; clear hK K
  have HST := hide (show ∀ w' Q N, NP w w' n l (nkOf awS) ⟨⟨[awV], [], [], [awV]⟩, none⟩ N Q → Blk w' g 53 #[.slice A 1 c, .slice A2 1 c2] → w'.cell? ⟨g, 0, none⟩ = some (.slice A 1 c) ∧ w'.cell? ⟨g, 1, none⟩ = some (.slice A2 1 c2) ∧ w'.cell? ⟨n, 0, none⟩ = some (ptr l) from fun w' Q N h1 h2 => ⟨h2.cell 0, h2.cell 1, h1.cell0⟩)
  have BQ := hide (B5.out.ext hwq)
  have HQG := hide (show And' Q5 w5.heap.size wq.heap.size g from .inl (HQ5.out))
  have HM := hide (num_any 3 wq)
  unfold wpO
  refine ⟨_, rfl, ?_⟩
  go_wp2_with ((with_reducible refine HM.out.mono ?_); rintro e w6 ⟨rfl, x6⟩; have X6 := hide x6; clear x6)
  simp only [exL]
  refine ⟨HST.out _ _ _ (NQ.out.ext X6.out) (BQ.out.ext X6.out), ?_⟩
  have HA7 := hide (aw_arg w6)
  have E7 := hide (Ext.alloc w6 (.cells #[.int .i64 1, .int .i64 3, .string ⟨#[]⟩] 59))
  unfold wpO
  refine ⟨_, rfl, ?_⟩
  go_wp2_with fail
  simp only [exL]
  refine ⟨HST.out _ _ _ ((NQ.out.ext X6.out).ext E7.out) ((BQ.out.ext X6.out).ext E7.out), ?_⟩
  have hh := ((NQ.out.ext X6.out).ext E7.out).has (by decide) 1 HA7.out
  rw [show inB [awV] awV = true by kernel_rfl] at hh
  have HH := hide hh
  have B7 := hide ((BQ.out.ext X6.out).ext E7.out)
  have HG7 := hide (show And' (And' (And' Q5 w5.heap.size wq.heap.size) wq.heap.size w6.heap.size) w6.heap.size (w6.alloc (.cells #[.int .i64 1, .int .i64 3, .string ⟨#[]⟩] 59)).heap.size g from .inl (.inl HQG.out))
  clear hh NQ BQ HA7 E7 X6 HM hwq HQG
  generalize w6.alloc (.cells #[.int .i64 1, .int .i64 3, .string ⟨#[]⟩] 59) = w7 at *
  generalize And' (And' (And' Q5 w5.heap.size wq.heap.size) wq.heap.size w6.heap.size) w6.heap.size w7.heap.size = Q7 at *
  unfold wpO
  refine ⟨_, rfl, ?_⟩
  go_wp2_with ((with_reducible refine HH.out.mono ?_); rintro e w8 ⟨rfl, h8, k8⟩; have N8 := hide h8; have B8 := hide (k8.blk B7.out (fun hn => hn HG7.out)); clear h8 k8)
  simp only [exL]
  refine ⟨HST.out _ _ _ N8.out B8.out, ?_⟩
  have HS8 := hide N8.out.stored
  unfold wpO
  refine ⟨_, rfl, ?_⟩
  apply Exists.intro
  refine ⟨.inl ⟨by rfl, fun w9 h9 => ?_⟩, fun K hK => ?_⟩
  · go_simp; first | done | rfl
  go_simp; refine hK _ ?_; clear hK K
  unfold wpO
  refine ⟨_, rfl, ?_⟩
  apply Exists.intro
  refine ⟨.inl ⟨by rfl, fun w9 h9 => ?_⟩, fun K hK => ?_⟩
  · go_simp; first | done | rfl
  go_simp; refine hK _ ?_; clear hK K
  unfold wpO
  refine ⟨_, rfl, ?_⟩
  apply Exists.intro
  refine ⟨.inl ⟨by rfl, fun w9 h9 => ?_⟩, fun K hK => ?_⟩
  · go_simp; first | done | rfl
  go_simp; refine hK _ ?_; clear hK K
  unfold wpO
  refine ⟨_, rfl, ?_⟩
  go_wp2_with ((with_reducible refine HS8.out.mono ?_); rintro e w9 ⟨rfl, x9⟩; have X9 := hide x9; clear x9)
  simp only [exL]
  refine ⟨HST.out _ _ _ (N8.out.ext X9.out) (B8.out.ext X9.out), ?_⟩
  have HR9 := hide (N8.out.ext X9.out).rows
  have HG9 := hide (show And' Q7 w8.heap.size w9.heap.size g from .inl HG7.out)
  have B9 := hide (B8.out.ext X9.out)
  unfold wpO
  refine ⟨_, rfl, ?_⟩
  apply Exists.intro
  refine ⟨.inl ⟨by rfl, fun w9 h9 => ?_⟩, fun K hK => ?_⟩
  · go_simp; first | done | rfl
  go_simp; refine hK _ ?_; clear hK K
  unfold wpO
  refine ⟨_, rfl, ?_⟩
  apply Exists.intro
  refine ⟨.inl ⟨by rfl, fun w9 h9 => ?_⟩, fun K hK => ?_⟩
  · go_simp; first | done | rfl
  go_simp; refine hK _ ?_; clear hK K
  unfold wpO
  refine ⟨_, rfl, ?_⟩
  apply Exists.intro
  refine ⟨.inl ⟨by rfl, fun w9 h9 => ?_⟩, fun K hK => ?_⟩
  · go_simp; first | done | rfl
  go_simp; refine hK _ ?_; clear hK K
  unfold wpO
  refine ⟨_, rfl, ?_⟩
  apply Exists.intro
  refine ⟨.inl ⟨by rfl, fun w9 h9 => ?_⟩, fun K hK => ?_⟩
  · go_simp; first | done | rfl
  go_simp; refine hK _ ?_; clear hK K
  unfold wpO
  refine ⟨_, rfl, ?_⟩
  apply Exists.intro
  refine ⟨.inl ⟨by rfl, fun w9 h9 => ?_⟩, fun K hK => ?_⟩
  · go_simp; first | done | rfl
  go_simp; refine hK _ ?_; clear hK K
  unfold wpO
  refine ⟨_, rfl, ?_⟩
  apply Exists.intro
  refine ⟨.inl ⟨by rfl, fun w9 h9 => ?_⟩, fun K hK => ?_⟩
  · go_simp; first | done | rfl
  go_simp; refine hK _ ?_; clear hK K
  unfold wpO
  refine ⟨_, rfl, ?_⟩
  apply Exists.intro
  refine ⟨.inl ⟨by rfl, fun w9 h9 => ?_⟩, fun K hK => ?_⟩
  · go_simp; first | done | rfl
  go_simp; refine hK _ ?_; clear hK K
  unfold wpO
  refine ⟨_, rfl, ?_⟩
  go_wp2_with ((with_reducible refine HR9.out.mono ?_); rintro e w10 ⟨A10, c10, M10, rfl, -, h10, k10, -⟩; have N10 := hide h10; have B10 := hide (k10.blk B9.out (fun hn => hn HG9.out)); clear h10 k10)
  simp only [exL]
  refine ⟨HST.out _ _ _ N10.out B10.out, ?_⟩
  unfold wpO
  refine ⟨_, rfl, ?_⟩
  apply Exists.intro
  refine ⟨.inl ⟨by rfl, fun w9 h9 => ?_⟩, fun K hK => ?_⟩
  · go_simp; first | done | rfl
  go_simp; refine hK _ ?_; clear hK K
  unfold wpO
  refine ⟨_, rfl, ?_⟩
  apply Exists.intro
  refine ⟨.inl ⟨by rfl, fun w9 h9 => ?_⟩, fun K hK => ?_⟩
  · go_simp; first | done | rfl
  go_simp; refine hK _ ?_; clear hK K
  unfold wpO
  refine ⟨_, rfl, ?_⟩
  apply Exists.intro
  refine ⟨.inl ⟨by rfl, fun w9 h9 => ?_⟩, fun K hK => ?_⟩
  · go_simp; first | done | rfl
  go_simp; refine hK _ ?_; clear hK K
  unfold wpO
  refine ⟨_, rfl, ?_⟩
  apply Exists.intro
  refine ⟨.inl ⟨by rfl, fun w9 h9 => ?_⟩, fun K hK => ?_⟩
  · go_simp; first | done | rfl
  go_simp; refine hK _ ?_; clear hK K
  unfold wpO
  go_wp2_with fail
  go_ret
  exact ⟨rfl, N10.out.ext0⟩
end Go.Proofs.Ytahdiiaadjdmcaa

namespace Go.Proofs.Ytahdiiaadjdmcaa
open Go.RowKit

/-- a row of values of one's own, whatever they are -/
def RowM (w : World) (B : Nat → Prop) (A : Option Addr) (n c : Nat) : Prop := ∃ xs, OwnH w B 59 3 n (.slice A n c) xs
theorem RowM.any {w : World} {B : Nat → Prop} {A : Option Addr} {n c : Nat} (h : RowM w B A n c) (b j : Nat) (u : Value) : RowM (w.setCell ⟨b, j, none⟩ u) B A n c := by
  obtain ⟨xs, h⟩ := h
  rcases h.own.2 with h1 | ⟨g, cap, cur, h1, h2, h3, h4, h5, h6, h7⟩
  · exact ⟨xs, ⟨h.own.1, .inl h1⟩, h.inB⟩
  · have hb : Blk w g 59 cur := h3
    have hle : n * 3 ≤ cap * 3 := Nat.mul_le_mul_right _ h4
    by_cases hg : g = b
    · subst hg
      refine ⟨(cur.setIfInBounds j u).toList.take (n * 3), ⟨?_, .inr ⟨g, cap, _, h1, h2, hb.set_ j u, h4, h5, by rw [Array.size_setIfInBounds]; exact h6, rfl⟩⟩, h.inB⟩
      rw [List.length_take, Array.length_toList, Array.size_setIfInBounds, h6]; omega
    · exact ⟨xs, ⟨h.own.1, .inr ⟨g, cap, cur, h1, h2, hb.far (p := ⟨b, j, none⟩) hg u, h4, h5, h6, h7⟩⟩, h.inB⟩
theorem RowM.chg {w w' : World} {B C : Nat → Prop} {A : Option Addr} {n c : Nat} (h : RowM w B A n c) (hw : Chg C w w') (hC : ∀ g, B g → ¬ C g) : RowM w' B A n c := by
  obtain ⟨xs, h⟩ := h
  exact ⟨xs, h.chg hw hC⟩
theorem RowM.ext {w w' : World} {B : Nat → Prop} {A : Option Addr} {n c : Nat} (h : RowM w B A n c) (hw : Ext w w') : RowM w' B A n c := h.chg (C := fun _ => False) (Chg.of hw) fun _ _ x => x
theorem RowM.at3 {w : World} {B : Nat → Prop} {A : Option Addr} {n c : Nat} (h : RowM w B A n c) {i : Nat} (hi : i < n) : ∃ g u0 u1 u2, A = some ⟨g, 0, none⟩ ∧ B g ∧ w.cell? ⟨g, i * 3, none⟩ = some u0 ∧ w.cell? ⟨g, i * 3 + 1, none⟩ = some u1 ∧ w.cell? ⟨g, i * 3 + 2, none⟩ = some u2 ∧
    w.frozen? ⟨g, i * 3, none⟩ = false ∧ w.frozen? ⟨g, i * 3 + 1, none⟩ = false ∧ w.frozen? ⟨g, i * 3 + 2, none⟩ = false := by
  obtain ⟨xs, h⟩ := h
  rcases h.own.2 with ⟨-, h1⟩ | ⟨g, cap, cur, k1, k2, k3, k4, k5, k6, k7⟩
  · omega
  · injection k1 with k1
    subst k1
    have hb : Blk w g 59 cur := k3
    have hlt : i * 3 + 2 < cur.size := by rw [k6]; omega
    exact ⟨g, cur[i * 3], cur[i * 3 + 1], cur[i * 3 + 2], rfl, h.inB g rfl, by rw [hb.cell]; exact Array.getElem?_eq_getElem (by omega), by rw [hb.cell]; exact Array.getElem?_eq_getElem (by omega), by rw [hb.cell]; exact Array.getElem?_eq_getElem (by omega), hb.frozen _, hb.frozen _, hb.frozen _⟩
theorem MovedIn.tight {P : Nat → Prop} {T : Nat} {w : World} {F U : List (List V)} {y : Value} (h : MovedIn P T w F U y) : MovedIn (fun b => P b ∧ T ≤ b) T w F U y := by
  obtain ⟨A, c, A2, c2, X, Y, e, h1, h2, h3, h4⟩ := h
  exact ⟨A, c, A2, c2, X, Y, e, h1, h2, h3, fun b hb => ⟨h4 b hb, (h4 b hb).2⟩⟩
theorem MovedIn.low {P : Nat → Prop} {T S : Nat} {w : World} {F U : List (List V)} {y : Value} (h : MovedIn P T w F U y) (hS : S ≤ T) : MovedIn P S w F U y := by
  obtain ⟨A, c, A2, c2, X, Y, e, h1, h2, h3, h4⟩ := h
  exact ⟨A, c, A2, c2, X, Y, e, h1, h2, h3, fun b hb => ⟨(h4 b hb).1, Nat.le_trans hS (h4 b hb).2⟩⟩
theorem MovedIn.two {P : Nat → Prop} {T : Nat} {w : World} {F U : List (List V)} {y : Value} (h : MovedIn P T w F U y) : ∃ A1 n1 c1 A2 n2 c2, y = .agg #[.slice A1 n1 c1, .slice A2 n2 c2] := by
  obtain ⟨A, c, A2, c2, X, Y, e, -⟩ := h
  exact ⟨_, _, _, _, _, _, e⟩
end Go.Proofs.Ytahdiiaadjdmcaa
