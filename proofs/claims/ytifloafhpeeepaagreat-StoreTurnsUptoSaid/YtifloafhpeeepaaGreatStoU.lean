/-
  store: rowAt; what is read of a store while it is walked.
-/
import Derived.Test.YtifloafhpeeepaaGreatStoT
namespace Go.Proofs.YtifloafhpeeepaaGreat
open Go.RowKit

/-- what rowAt reads -/
structure RdAt (w : World) (v : StV) : Prop where
  str : Blk w v.x 78 v.cells
  ar : ∃ B, HArR w B v.xs v.most v.sl v.fr v.lv
  map : ∃ n, MapI w v.rm n v.refs
  rows : ∀ i r, (i, r) ∈ v.P → ∃ A n c, thg v.sl i = some (.slice A n c) ∧ RowAt w A n r
theorem StM.rd {w : World} {lab : Lab} {v : StV} (h : StM w lab v) : RdAt w v :=
  ⟨h.str, ⟨_, h.part 2⟩, (h.part 3).2.imp fun _ h => h.2, fun i r hi => by
    obtain ⟨A, n, c, h1, h2⟩ := (h.part 8).1 i r hi
    exact ⟨A, n, c, h1, h2.1⟩⟩
theorem RdAt.ext {w w' : World} {v : StV} (h : RdAt w v) (hw : Ext w w') : RdAt w' v := by
  obtain ⟨B, hB⟩ := h.ar
  exact ⟨h.str.ext hw, ⟨B, hB.chg (C := fun _ => False) (Chg.of hw) (fun _ _ h => h)⟩, h.map.imp fun _ h => h.ext hw, fun i r hi => by
    obtain ⟨A, n, c, h1, h2⟩ := h.rows i r hi
    exact ⟨A, n, c, h1, h2.ext hw⟩⟩
/-- behind a change that keeps off all parts but the lists' -/
theorem StM.rdChg {w w' : World} {lab : Lab} {v : StV} {C : Nat → Prop} (h : StM w lab v) (hw : Chg C w w') (hC : ∀ g, C g → lab.own 7 g ∨ ¬ lab.dom g) : RdAt w' v := by
  have hne : ∀ i, i ≠ 7 → ∀ g, lab.own i g → ¬ C g := fun i hi g hg hc => (hC g hc).elim (fun h7 => hi (by have h1 : some i = some 7 := hg.symm.trans h7; injection h1)) fun hd => hd ⟨i, hg⟩
  have p0 := part_chg hw (hne 0 (by omega)) 0 (h.part 0)
  have p2 := part_chg hw (hne 2 (by omega)) 2 (h.part 2)
  have p3 := part_chg hw (hne 3 (by omega)) 3 (h.part 3)
  have p8 := part_chg hw (hne 8 (by omega)) 8 (h.part 8)
  exact ⟨p0.1, ⟨_, p2⟩, p3.2.imp fun _ h => h.2, fun i r hi => by
    obtain ⟨A, n, c, h1, h2⟩ := p8.1 i r hi
    exact ⟨A, n, c, h1, h2.1⟩⟩
/-- part j is another one behind a change that keeps off all other parts -/
theorem StM.chgTo {w w' : World} {lab : Lab} {v : StV} (h : StM w lab v) (j : Nat) {B' C : Nat → Prop} (hB : ∀ b, B' b → lab.own j b ∨ w.heap.size ≤ b) (hl : ∀ b, B' b → b < w'.heap.size) (hw : Chg C w w') (hC : ∀ g, C g → lab.own j g ∨ ¬ lab.dom g) (hp : Proofs.YtifloafhpeeepaaGreat.part w' B' v j) :
    ∃ lab', StM w' lab' v ∧ ∀ b, lab'.dom b → lab.dom b ∨ (w.heap.size ≤ b ∧ B' b) := by
  have hlt : ∀ b i, lab.grow w.heap.size j B' b = some i → b < w'.heap.size := fun b i hb => by
    unfold Lab.grow at hb
    split at hb
    · have := hw.size; omega
    · split at hb
      · exact hl b (by assumption)
      · cases hb
  refine ⟨lab.grow w.heap.size j B', ⟨hlt, fun i => ?_⟩, fun b hb => ?_⟩
  · by_cases hi : i = j
    · subst hi
      refine part_mono (fun b hb => ?_) (fun b hb => hlt b _ hb) i hp
      show lab.grow w.heap.size i B' b = some i
      unfold Lab.grow
      rcases hB b hb with h1 | h1
      · rw [if_pos (h.lt b _ h1)]; exact h1
      · rw [if_neg (by omega), if_pos hb]
    · have e : ∀ b, lab.own i b → (lab.grow w.heap.size j B').own i b := fun b hb => by
        show lab.grow w.heap.size j B' b = some i
        unfold Lab.grow
        rw [if_pos (h.lt b _ hb)]; exact hb
      exact part_mono e (fun b hb => hlt b _ hb) i (part_chg hw (fun g hg hc => (hC g hc).elim (fun h7 => hi (by
        have h1 : some i = some j := hg.symm.trans h7
        injection h1)) fun hd => hd ⟨i, hg⟩) i (h.part i))
  · obtain ⟨i, hi⟩ := hb
    unfold Lab.grow at hi
    split at hi
    · exact .inl ⟨i, hi⟩
    · split at hi
      · exact .inr ⟨by omega, by assumption⟩
      · cases hi
/-- what a call leaves that tells things in blocks from M on -/
def StRM (w : World) (lab : Lab) (w' : World) (v' : StV) (M : Nat) : Prop := ∃ lab', StM w' lab' v' ∧ (∀ b, lab'.dom b → lab.dom b ∨ w.heap.size ≤ b) ∧ Chg lab.dom w w' ∧ (∀ b, lab'.dom b → b < M) ∧ w.heap.size ≤ M ∧ M ≤ w'.heap.size
set_option maxRecDepth 100000 in
theorem rowAt_any {w : World} {v : StV} (h : RdAt w v) (hr : StRow v) {s l : Nat} {r : List V} (hp : (s, r) ∈ v.P) (hl : l < v.L) :
    Calls Tryz.prog 51 #[.pointer (some ⟨v.x, 0, none⟩), .int .i64 ((s * v.L + l : Nat) : Int)] w (RetOwn w 43 3 r.length (cellsR r)) := by
  obtain ⟨A, n, c, hth, hrow⟩ := h.rows s r hp
  obtain rfl := hrow.1
  obtain ⟨gn, hgn⟩ := thg_some hth
  have hgA : genA v.sl s = gn := genA_at hgn
  have href := hr.refs _ hp
  dsimp only at href
  rw [hgA] at href
  obtain ⟨B, hB⟩ := h.ar
  have hsm : s < v.most := Nat.lt_of_lt_of_le (thg_lt (by rw [hth]; rfl)) hB.ok.len
  have hmost := hr.most
  have hg4 := hr.gsl
  have hL5 : v.L ≤ 5 := by unfold StV.L; omega
  have hL0 : 0 < v.L := by omega
  have hrl : r.length ≤ 30 := by
    have h1 := (hr.rows _ hp).1
    unfold fitsR at h1
    rw [Bool.and_eq_true, decide_eq_true_eq] at h1
    rw [h1.1]; exact hr.width
  have a4 : w.cell? ⟨v.x, 4, none⟩ = some (.pointer (some ⟨v.xs, 0, none⟩)) := h.str.cell 4
  have a5 : w.cell? ⟨v.x, 5, none⟩ = some (.map (some v.rm)) := h.str.cell 5
  have a2 : w.cell? ⟨v.x, 2, none⟩ = some (.int .i64 (v.L : Int)) := h.str.cell 2
  have hlk : ∀ w3, Ext w w3 → (Instr.lookup 71 (.map (some v.rm)) (.int .i64 (s : Int)) false).run Tryz.prog w3 = .ok (.agg #[.int .i64 s, .int .i64 gn]) w3 := fun w3 h3 => by
    obtain ⟨nn, hmap⟩ := (h.ext h3).map
    have h9 := run_imap 71 132 Tryz.underlying71 (z := .agg #[.int .i64 0, .int .i64 0]) (fun w => zref w) hmap (k := s) (by omega)
    rw [href] at h9
    exact h9
  have HAt := hide (fun (w3 : World) (h3 : Ext w w3) => arena_atR (hB.chg (C := fun _ => False) (Chg.of h3) (fun _ _ h => h)) hgn)
  have HCl := hide (fun (w3 : World) (h3 : Ext w w3) => cloneV (cellsR r) A r.length c w3 (hrow.ext h3).2 (cellsR_one r) (by omega))
  have hac : ∃ ca : Nat, Hid (ca = s * v.L + l) ∧ (ca : Int).tdiv (v.L : Int) = (s : Int) := ⟨s * v.L + l, rfl, by
    have h1 : (s * v.L + l) / v.L = s := by rw [Nat.mul_comm, Nat.mul_add_div hL0, Nat.div_eq_of_lt hl, Nat.add_zero]
    rw [Int.tdiv_eq_ediv_of_nonneg (by omega), ← Int.natCast_ediv, h1]⟩
  obtain ⟨ca, HCA, hca⟩ := hac
  rw [← HCA.out]
  have hwa : IntKind.i64.wrap (s : Int) = (s : Int) := IntWalk.i64_in _ (by omega)
  have hL1 : ¬ (v.L : Int) = 0 := by omega
  have hLb : ¬ v.L = 0 := by omega
  clear h hr hB hrow hth hgn href
  go_enter Tryz.func51, Tryz.ntmps51
  go_upto_region 1 with fail
  have a4 := cell_ext a4; have a5 := cell_ext a5; have a2 := cell_ext a2
  refine wp_region_ext 21 (by kernel_rfl) (by kernel_rfl) (by kernel_rfl) ?_
  iterate 15
    refine wpE_k (by kernel_rfl) (by kernel_rfl) ?_
    apply Exists.intro
    refine ⟨fun w1 hw1 => ?_, fun K hK => ?_⟩
    · go_simp; first | done | rfl
    go_simp; refine hK _ _ ?_; clear hK K
  iterate 1
    refine wpE_k (by kernel_rfl) (by kernel_rfl) ?_
    apply Exists.intro
    refine ⟨fun w1 hw1 => ?_, fun K hK => ?_⟩
    · go_simp; first | done | rfl | exact HAt.out _ ‹_›
    go_simp; refine hK _ _ ?_; clear hK K
  iterate 5
    refine wpE_k (by kernel_rfl) (by kernel_rfl) ?_
    apply Exists.intro
    refine ⟨fun w1 hw1 => ?_, fun K hK => ?_⟩
    · go_simp; first | done | rfl
    go_simp; refine hK _ _ ?_; clear hK K
  refine wpE_nil ⟨rfl, by kernel_rfl, fun w1 hw1 => ?_⟩
  simp only [EndQ]
  refine wpList_nil ?_
  have X1 := hide hw1
  clear a4 a5 a2 hlk HAt hw1
  go_wp2_with ((with_reducible refine (HCl.out w1 X1.out).mono ?_); rintro e w2 ⟨A2, c2, rfl, h2, x2⟩; have O2 := hide h2; have X2 := hide x2; clear h2 x2)
  go_ret
  exact ⟨A2, c2, rfl, own_base0 O2.out X1.out.size, X1.out.trans X2.out⟩
theorem walk_any (w : World) (x : Nat) (l : Int) :
    Calls Tryz.prog 88 #[.pointer (some ⟨x, 0, none⟩), .int .i64 l] w fun e w' => ∃ gx gn, e = .returned (.func (.func 114) #[] #[.pointer (some ⟨gx, 0, none⟩), .pointer (some ⟨gn, 0, none⟩)]) ∧ Blk w' gx 75 #[.pointer (some ⟨x, 0, none⟩)] ∧ Blk w' gn 3 #[.int .i64 l] ∧ w.heap.size ≤ gx ∧ w.heap.size ≤ gn ∧ gx ≠ gn ∧ Ext w w' := by
  have hmf : ∀ (fn : Fn) (first cap : Array Value) (w : World), (Instr.makeFunc fn first cap).run Tryz.prog w = .ok (.func fn first cap) w := fun _ _ _ _ => rfl
  go_enter Tryz.func88, Tryz.ntmps88
  go_wp2_with fail
  go_ret
  have hb := Blk.new (w.alloc (.cells #[.pointer (some ⟨x, 0, none⟩)] 75)) 3 #[.int .i64 l]
  rw [World.size_alloc] at hb
  exact ⟨w.heap.size, w.heap.size + 1, rfl, (Blk.new w _ _).ext (Ext.alloc _ _), hb, Nat.le_refl _, by omega, by omega, (Ext.alloc _ _).alloc' _⟩
/-- a list that is none: no round -/
theorem walk1_bad {w : World} (l x gx gn : Nat) (hx : Blk w gx 75 #[.pointer (some ⟨x, 0, none⟩)]) (hgn : Blk w gn 3 #[.int .i64 (-1)]) :
    Calls Tryz.prog 114 #[.func (.yield l) #[] #[], .pointer (some ⟨gx, 0, none⟩), .pointer (some ⟨gn, 0, none⟩)] w fun e w' => e = .returned (.tuple #[]) ∧ w' = w := by
  have x0 : w.cell? ⟨gx, 0, none⟩ = some (.pointer (some ⟨x, 0, none⟩)) := hx.cell 0
  have x1 : w.cell? ⟨gn, 0, none⟩ = some (.int .i64 (-1)) := hgn.cell 0
  clear hx hgn
  go_enter Tryz.func114, Tryz.ntmps114
  go_wp2_with ((with_reducible refine (list_bad w x).mono ?_); rintro e w1 ⟨rfl, rfl⟩)
  refine bodyPost_ret (v := .tuple #[]) (by simp [results, Tryz.results114, go_sem]) rfl ?_
  exact ⟨rfl, rfl⟩
end Go.Proofs.YtifloafhpeeepaaGreat
