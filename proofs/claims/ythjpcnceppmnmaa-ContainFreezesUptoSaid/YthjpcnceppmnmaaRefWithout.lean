/-
  The document's Without: a copy without one of its atoms.
-/
import Derived.Test.YthjpcnceppmnmaaCoreW
namespace Go.Proofs.Ythjpcnceppmnmaa
open Go.RowKit

/-- of the first j atoms all but the i-th -/
def outL {α : Type} (l : List α) (i j : Nat) : List α := (l.take j).take i ++ (l.take j).drop (i + 1)
theorem outL_keep {α : Type} {l : List α} {i j : Nat} {x : α} (h : l[j]? = some x) (hne : j ≠ i) : outL l i (j + 1) = outL l i j ++ [x] := by
  have hj : j < l.length := (List.getElem?_eq_some_iff.1 h).1
  have e : l.take (j + 1) = l.take j ++ [x] := by rw [List.take_add_one, h]; rfl
  have hl : (l.take j).length = j := by rw [List.length_take]; omega
  unfold outL
  rw [e]
  rcases Nat.lt_or_gt_of_ne hne with h1 | h1
  · have e1 : (l.take j ++ [x]).take i = l.take j ++ [x] := List.take_of_length_le (by simp only [List.length_append, List.length_cons, List.length_nil]; omega)
    have e2 : (l.take j).take i = l.take j := List.take_of_length_le (by omega)
    have e3 : (l.take j ++ [x]).drop (i + 1) = [] := List.drop_of_length_le (by simp only [List.length_append, List.length_cons, List.length_nil]; omega)
    have e4 : (l.take j).drop (i + 1) = [] := List.drop_of_length_le (by omega)
    rw [e1, e2, e3, e4]
    simp
  · rw [List.take_append_of_le_length (by omega), List.drop_append_of_le_length (by omega)]
    simp
theorem outL_skip {α : Type} {l : List α} {i : Nat} (h : i < l.length) : outL l i (i + 1) = outL l i i := by
  have hl : (l.take i).length = i := by rw [List.length_take]; omega
  unfold outL
  rw [List.take_take, List.take_take, List.drop_of_length_le (by rw [List.length_take]; omega), List.drop_of_length_le (by omega)]
  congr 2
  omega
theorem outL_all {α : Type} (l : List α) (i : Nat) : outL l i l.length = l.take i ++ l.drop (i + 1) := by
  unfold outL
  rw [List.take_of_length_le (Nat.le_refl _)]
theorem outL_zero {α : Type} (l : List α) (i : Nat) : outL l i 0 = [] := by simp [outL]

/-- the answer that is being filled, over the world W in which the copy lies -/
structure WInv (W w : World) (g : Nat) (nm : ByteArray) (Ah : Option Addr) (n c : Nat) (as_ : List (Atm × Nat)) (k : Nat) (A : Option Addr) (d : Nat) : Prop where
  var : Blk w g 25 #[.string nm, .slice Ah n c, .slice A k d]
  atoms : ∃ cells, Els RCp 2 W cells as_ ∧ w.ownsRow W.heap.size 43 2 (.slice A k d) k cells
  len : k = as_.length
  ext : Ext W w

def RetWo (w0 : World) (q : Qy) (en : Ending) (w' : World) : Prop := ∃ L, en = .returned (qval q.name L) ∧ QAt w' L q ∧ Ext w0 w'

theorem copy_out (q : Qy) (L : QLoc) (w : World) (hq : QAt w L q) (hM : smallM 1048576 q) :
    Calls Try.prog 12 #[qval q.name L] w fun e w' => ∃ A n c B m d, e = .returned (.agg #[.string q.name, .slice A n c, .slice B m d]) ∧ Copied w w' ⟨A, n, c, B, m, d⟩ q ∧ Ext w w' :=
  (copy_query q L w hq hM).mono fun _ _ ⟨_, h1, h2, h3⟩ => ⟨_, _, _, _, _, _, h1, h2, h3⟩

set_option maxHeartbeats 2000000 in
set_option maxRecDepth 100000 in
theorem ref_without (q : Qy) (L : QLoc) (i : Nat) (w : World) (hq : QAt w L q) (hM : smallM 1048576 q) (hi : i < q.atoms.length) :
    Calls Try.prog 26 #[qval q.name L, .int .i64 (i : Int)] w (RetWo w (withoutQ q i)) := by
  obtain ⟨i0, hi0, hz0, hz1, hz2⟩ := info_parts infoA
  have HCP := hide (fun w1 (h1 : Ext w w1) => copy_out q L w1 (hq.ext h1) hM)
  have HI := hide hi
  have hml := hide hM.atomsL
  have hhl := hide hM.headL
  obtain ⟨nm, hd, as_⟩ := q
  obtain ⟨A, n, c, B, m, d⟩ := L
  simp only [qval] at *
  have hE2 := (Ext.alloc w (.cells #[.string nm, .slice A n c, .slice B m d] 25)).alloc' (.cells #[.string ⟨#[]⟩, .slice none 0 0, .slice none 0 0] 25)
  have HE := hide hE2
  have HB0 := hide ((Blk.new w 25 #[.string nm, .slice A n c, .slice B m d]).ext (Ext.alloc _ (.cells #[.string ⟨#[]⟩, .slice none 0 0, .slice none 0 0] 25)))
  have HB1 := hide (show Blk ((w.alloc (.cells #[.string nm, .slice A n c, .slice B m d] 25)).alloc (.cells #[.string ⟨#[]⟩, .slice none 0 0, .slice none 0 0] 25)) (w.heap.size + 1) 25 #[.string ⟨#[]⟩, .slice none 0 0, .slice none 0 0] from Blk.newAt (World.size_alloc _ _))
  generalize hW2 : (w.alloc (.cells #[.string nm, .slice A n c, .slice B m d] 25)).alloc (.cells #[.string ⟨#[]⟩, .slice none 0 0, .slice none 0 0] 25) = W2 at *
  have HW2 := hide hW2
  clear hW2 hq hM hi hE2
  have a0 : W2.cell? ⟨w.heap.size, 0, none⟩ = some (.string nm) := HB0.out.cell 0
  have a1 : W2.cell? ⟨w.heap.size, 1, none⟩ = some (.slice A n c) := HB0.out.cell 1
  have a2 : W2.cell? ⟨w.heap.size, 2, none⟩ = some (.slice B m d) := HB0.out.cell 2
  go_enter Try.func26, Try.ntmps26
  go_wp2_with (rw [HW2.out]; (with_reducible refine (HCP.out _ HE.out).mono ?_); rintro e w1 ⟨Ac, nc, cc, Bc, mc, dc, rfl, hc, h1⟩; have E1 := hide (HE.out.trans h1); have BR := hide (HB1.out.ext h1); have HC := hide hc; clear h1 hc a0 a1 a2)
  obtain ⟨gh, _, hAh, hnh, hch, hBh⟩ := HC.out.head
  obtain ⟨ps, pcells, h5, h6, h7, h8, _, _⟩ := HC.out.atoms
  dsimp only at hAh hnh hch h7 h8
  subst hAh; subst hnh; subst hch
  have HV5 := hide (Blk.new w1 25 #[.string nm, .slice (some ⟨gh, 0, none⟩) hd.length hd.length, .slice Bc mc dc])
  have HX1 := hide (Ext.alloc w1 (.cells #[.string nm, .slice (some ⟨gh, 0, none⟩) hd.length hd.length, .slice Bc mc dc] 25))
  have HX2 := hide (HX1.out.alloc' (.cells #[.string nm, .slice (some ⟨gh, 0, none⟩) hd.length hd.length, .slice none 0 0] 25))
  have HV6 := hide (show Blk ((w1.alloc (.cells #[.string nm, .slice (some ⟨gh, 0, none⟩) hd.length hd.length, .slice Bc mc dc] 25)).alloc (.cells #[.string nm, .slice (some ⟨gh, 0, none⟩) hd.length hd.length, .slice none 0 0] 25)) (w1.heap.size + 1) 25 #[.string nm, .slice (some ⟨gh, 0, none⟩) hd.length hd.length, .slice none 0 0] from Blk.newAt (World.size_alloc _ _))
  have HQ5 := hide ((LAt.own h7 h6 h8).ext RCp.stab HX1.out)
  have HH5 := hide (hBh.ext HX1.out)
  have HPS := hide h5
  clear hBh h5 h6 h8
  have HE5 := hide (E1.out.trans HX1.out)
  have HX12 := hide (Ext.alloc (w1.alloc (.cells #[.string nm, .slice (some ⟨gh, 0, none⟩) hd.length hd.length, .slice Bc mc dc] 25)) (.cells #[.string nm, .slice (some ⟨gh, 0, none⟩) hd.length hd.length, .slice none 0 0] 25))
  have hs5 : (w1.alloc (.cells #[.string nm, .slice (some ⟨gh, 0, none⟩) hd.length hd.length, .slice Bc mc dc] 25)).heap.size = w1.heap.size + 1 := World.size_alloc _ _
  have HS5 := hide hs5; clear hs5
  generalize hW5 : w1.alloc (.cells #[.string nm, .slice (some ⟨gh, 0, none⟩) hd.length hd.length, .slice Bc mc dc] 25) = W5 at *
  have HI0 := hide (show WInv W5 (W5.alloc (.cells #[.string nm, .slice (some ⟨gh, 0, none⟩) hd.length hd.length, .slice none 0 0] 25)) (w1.heap.size + 1) nm (some ⟨gh, 0, none⟩) hd.length hd.length (outL ps i 0) 0 none 0 from
    ⟨HV6.out, by rw [outL_zero]; exact ⟨[], .nil, World.ownsRow_nil _ _ _ _⟩, by rw [outL_zero]; rfl, HX12.out⟩)
  have hmc := hide (show mc = ps.length from h7)
  have hpl := hide (show ps.length = as_.length by have h1 := congrArg List.length HPS.out; simpa using h1)
  have hmc20 : mc ≤ 1048576 := by have := hml.out; have := hmc.out; have := hpl.out; omega
  clear h7
  clear hW5
  go_loopw [7] (fun s7 w' => ∃ (j k : Nat) (A6 : Option Addr) (d6 : Nat), j ≤ mc ∧ k ≤ j ∧ s7 = .int .i64 j ∧ Hid (WInv W5 w' (w1.heap.size + 1) nm (some ⟨gh, 0, none⟩) hd.length hd.length (outL ps i j) k A6 d6)) (fun s7 _ => mc - (intOf s7).toNat)
  case atStart => exact ⟨0, 0, none, 0, by omega, by omega, rfl, HI0.out⟩
  case round =>
    obtain ⟨j, k, A6, d6, hj, hkj, rfl, hI⟩ := hrel
    have c2 : wr.cell? ⟨w1.heap.size, 2, none⟩ = some (.slice Bc mc dc) := (HV5.out.ext hI.out.ext).cell 2
    by_cases h : j < mc
    · obtain ⟨b, off, p, cs, rfl, hx, hb1, hcl, hone, ⟨rfl, hT⟩, hcell⟩ := HQ5.out.get (by omega) h
      have e0 := hI.out.ext.cell (show W5.cell? ⟨b, off + j * 2, none⟩ = some (.string p.1.rel) from hcell 0 (by omega))
      have e1 := hI.out.ext.cell (show W5.cell? ⟨b, off + j * 2 + 1, none⟩ = some (.slice (some ⟨p.2, 0, none⟩) p.1.terms.length p.1.terms.length) from hcell 1 (by omega))
      have Hx := hide hx; have HT := hide hT; clear hx hT hcl hone hcell
      by_cases hji : j = i
      · subst hji
        go_wp2_with fail
        go_roundw
        case rel => exact ⟨j + 1, k, A6, d6, by omega, by omega, by go_num, by rw [outL_skip (by rw [hpl.out]; exact HI.out)]; exact hI.out⟩
        case measure => simp [intOf]; omega
      · have hne : ((j : Int) != (i : Int)) = true := by simp; omega
        have v2 : wr.cell? ⟨w1.heap.size + 1, 2, none⟩ = some (.slice A6 k d6) := hI.out.var.cell 2
        have f2 : wr.frozen? ⟨w1.heap.size + 1, 2, none⟩ = false := hI.out.var.frozen 2
        have hgb : w1.heap.size + 1 < wr.heap.size := hI.out.var.lt
        obtain ⟨ccs, p2, p3⟩ := hI.out.atoms
        have hn2 : some (w1.heap.size + 1) ≠ (Value.slice A6 k d6).ownBlock := own_ne_blk p3 hI.out.var (by decide)
        have P2 := hide p2; have P3 := hide p3; clear p2 p3
        have hst := hide (outL_keep Hx.out hji)
        have hk20 : k + 1 ≤ 1048576 := by have := hml.out; have := hmc.out; omega
        have hn := hji; clear hji
        go_wp2_with fail
        refine wp_region_ext 8 (by kernel_rfl) (by kernel_rfl) (by kernel_rfl) ?_
        have c2 := cell_ext c2
        have v2 := cell_ext v2
        have e0 := cell_ext e0
        have e1 := cell_ext e1
        iterate 7
          refine wpE_k (by kernel_rfl) (by kernel_rfl) ?_
          apply Exists.intro
          refine ⟨fun w1 hw1 => ?_, fun K hK => ?_⟩
          · go_simp; first | done | rfl
          go_simp; refine hK _ _ ?_; clear hK K
        clear v2 e0 e1 c2
        refine wpE_p [] (fun u w1 => ∃ gb, u = .slice (some ⟨gb, 0, none⟩) 1 1 ∧ wr.heap.size ≤ gb ∧ Blk w1 gb 43 #[.string p.1.rel, .slice (some ⟨p.2, 0, none⟩) p.1.terms.length p.1.terms.length])
          (fun u w1 w2 _ h2 ⟨gb, h3, h4, h5⟩ => ⟨gb, h3, h4, h5.ext h2⟩) rfl (by kernel_rfl) (fun w1 hw1 => ?_) ?_
        · simp only [LookQ]
          go_simp
          exact ⟨Ext.alloc _ _, hw1.size, Blk.new _ _ _⟩
        refine wpE_nil ⟨rfl, by kernel_rfl, fun w3 hw3 => ?_⟩
        simp only [EndQ]
        rintro _ ⟨gb, rfl, hgb2, hBb⟩
        simp only [List.drop]
        have Hsrc := hide (show Sl w3 (some ⟨gb, 0, none⟩) 1 2 [.string p.1.rel, .slice (some ⟨p.2, 0, none⟩) p.1.terms.length p.1.terms.length] from hBb.sl (n := 1) (size := 2) rfl)
        have HW3 := hide hw3
        clear hBb hw3 hgb2
        have v2 : w3.cell? ⟨w1.heap.size + 1, 2, none⟩ = some (.slice A6 k d6) := (hI.out.var.ext HW3.out).cell 2
        have hone : OneCells [Value.string p.1.rel, .slice (some ⟨p.2, 0, none⟩) p.1.terms.length p.1.terms.length] := fun v hv => by
          simp only [List.mem_cons, List.not_mem_nil, or_false] at hv
          rcases hv with rfl | rfl <;> rfl
        have HONE := hide hone; clear hone
        go_wp2_with (at_builtin; refine wpList_append_sl rfl (.tmp 26) (.tmp 32) _ rfl 43 i0 _ 2 40 Try.underlying23 hi0 hz0 hz1 hz2 rfl (by omega) W5 (hI.out.ext.trans HW3.out) (.slice A6 k d6) k ccs rfl (own_ext P3.out HW3.out) _ 1 1 _ rfl Hsrc.out HONE.out (by unfold maxLen; omega) (by omega) ?_; intro A9 c9 w8 own8 E8 G8 L8; have v8 : w8.cell? ⟨w1.heap.size + 1, 2, none⟩ = some (.slice A6 k d6) := G8.out.cell v2 hn2; have f8 : w8.frozen? ⟨w1.heap.size + 1, 2, none⟩ = false := (World.frozen?_of_block (a := ⟨w1.heap.size + 1, 2, none⟩) (G8.out.block (w1.heap.size + 1) (Nat.lt_of_lt_of_le hgb HW3.out.size) hn2)).trans ((HW3.out.frozen (p := ⟨w1.heap.size + 1, 2, none⟩) hgb).trans f2))
        go_roundw
        case rel =>
          refine ⟨j + 1, k + 1, A9, c9, by omega, by omega, by go_num, ?_⟩
          have V8 : Blk w8 (w1.heap.size + 1) 25 _ := (hI.out.var.ext HW3.out).grown G8.out hn2
          rw [hst.out]
          refine ⟨?_, ⟨_, P2.out.append (Els.single rfl HONE.out ⟨rfl, HT.out⟩), own_set own8.out V8 (by decide) 2 _⟩, by rw [List.length_append, ← hI.out.len]; rfl, E8.out.setCell (p := ⟨w1.heap.size + 1, 2, none⟩) (by have := HS5.out; simp only; omega) _⟩
          have := V8.set_ 2 (.slice A9 (k + 1) c9)
          simpa using this
        case measure => simp [intOf]; omega
    · obtain rfl : j = mc := by omega
      have v0 : wr.cell? ⟨w1.heap.size + 1, 0, none⟩ = some (.string nm) := hI.out.var.cell 0
      have v1 : wr.cell? ⟨w1.heap.size + 1, 1, none⟩ = some (.slice (some ⟨gh, 0, none⟩) hd.length hd.length) := hI.out.var.cell 1
      have v2 : wr.cell? ⟨w1.heap.size + 1, 2, none⟩ = some (.slice A6 k d6) := hI.out.var.cell 2
      have r := (BR.out.ext HX1.out).ext hI.out.ext
      have r0 : wr.cell? ⟨w.heap.size + 1, 0, none⟩ = some (.string ⟨#[]⟩) := r.cell 0
      have r1 : wr.cell? ⟨w.heap.size + 1, 1, none⟩ = some (.slice none 0 0) := r.cell 1
      have r2 : wr.cell? ⟨w.heap.size + 1, 2, none⟩ = some (.slice none 0 0) := r.cell 2
      have q0 := r.frozen 0
      have q1 := r.frozen 1
      have q2 := r.frozen 2
      have HR := hide r; clear r
      go_wp2_with fail
      refine bodyPost_ret (v := .agg #[.string nm, .slice (some ⟨gh, 0, none⟩) hd.length hd.length, .slice A6 k d6]) (by simp [results, Try.results26, go_sem, r0, r1, r2]) rfl ?_
      obtain ⟨cs, p2, p3⟩ := hI.out.atoms
      have R1 := HR.out.set_ 0 (.string nm)
      have R2 := R1.set_ 1 (.slice (some ⟨gh, 0, none⟩) hd.length hd.length)
      have hE := (HE5.out.trans hI.out.ext).set3 (g := w.heap.size + 1) (Nat.le_succ _) (.string nm) (.slice (some ⟨gh, 0, none⟩) hd.length hd.length) (.slice A6 k d6)
      have hps : (outL ps i j).map (·.1) = (withoutQ ⟨nm, hd, as_⟩ i).atoms := by
        rw [hmc.out, outL_all, List.map_append, List.map_take, List.map_drop, HPS.out]
        rfl
      have hstep : ∀ cs x, RCp wr cs x → RCp (((wr.setCell ⟨w.heap.size + 1, 0, none⟩ (.string nm)).setCell ⟨w.heap.size + 1, 1, none⟩ (.slice (some ⟨gh, 0, none⟩) hd.length hd.length)).setCell ⟨w.heap.size + 1, 2, none⟩ (.slice A6 k d6)) cs x := fun cs x hp => ⟨hp.1, hp.2.far3 (blk_ne hp.2 HR.out (by decide)) _ _ _⟩
      have hat := els_atoms ((p2.ext RCp.stab hI.out.ext).mono hstep)
      rw [hps] at hat
      have hHH := HH5.out.ext hI.out.ext
      refine ⟨⟨some ⟨gh, 0, none⟩, hd.length, hd.length, A6, k, d6⟩, rfl, ⟨blk_texts (hHH.far3 (blk_ne hHH HR.out (by decide)) _ _ _), LAt.own ?_ hat (own_set (own_set (own_set p3 HR.out (by decide) 0 _) R1 (by decide) 1 _) R2 (by decide) 2 _), Nat.le_refl _⟩, hE⟩
      show k = _
      rw [← hps, List.length_map]
      exact hI.out.len
end Go.Proofs.Ythjpcnceppmnmaa
