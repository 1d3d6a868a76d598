/-
  hashidx: grow lays the table anew.
-/
import Derived.Test.YtlpbkhdpfmknkaaHidC
namespace Go.Proofs.Ytlpbkhdpfmknkaa
open Go.RowKit

theorem ents_take {T : List Pl} {i : Nat} {p : Pl} (h : T[i]? = some p) : ents (T.take (i + 1)) = ents (T.take i) ++ (ent p).toList := by
  obtain ⟨hi, e⟩ := List.getElem?_eq_some_iff.1 h
  rw [List.take_succ_eq_append_getElem hi, e]
  unfold ents
  rw [List.filterMap_append]
  congr 1
theorem ents_take_le (T : List Pl) (i : Nat) : (ents (T.take i)).length ≤ (ents T).length := by
  unfold ents
  exact ((List.take_sublist i T).filterMap ent).length_le
/-- so many places are laid anew -/
structure Anew (w0 w : World) (B : Nat → Prop) (x nt most size probes N : Nat) (T : List Pl) (i : Nat) (T' : List Pl) (Ks' : List Value) : Prop where
  ix : IxAt w (fun b => B b ∨ b = nt) x nt most size 0 probes T' Ks'
  good : HGood T'
  perm : List.Perm (ents T') (ents (T.take i))
  gone : goneN T' = 0
  len : T'.length = N
  keys : ∀ p ∈ T', p.key.length ≤ 4096
  chg : Chg (fun b => b = x) w0 w
theorem Anew.go {w0 w w' : World} {B : Nat → Prop} {x nt most size probes N : Nat} {T : List Pl} {i : Nat} {T' : List Pl} {Ks' : List Value} (h : Anew w0 w B x nt most size probes N T i T' Ks') (hw : Ext w w') : Anew w0 w' B x nt most size probes N T i T' Ks' :=
  ⟨h.ix.ext hw, h.good, h.perm, h.gone, h.len, h.keys, h.chg.trans' (Chg.of hw)⟩
theorem Anew.skip {w0 w : World} {B : Nat → Prop} {x nt most size probes N : Nat} {T : List Pl} {i : Nat} {T' : List Pl} {Ks' : List Value} (h : Anew w0 w B x nt most size probes N T i T' Ks') {p : Pl} (hp : T[i]? = some p) (h1 : p.st ≠ 1) : Anew w0 w B x nt most size probes N T (i + 1) T' Ks' :=
  ⟨h.ix, h.good, by rw [ents_take hp, ent, if_neg h1]; simpa using h.perm, h.gone, h.len, h.keys, h.chg⟩
/-- the next used place is laid -/
theorem Anew.lay {w0 w : World} {B : Nat → Prop} {x nt most size probes N : Nat} {T : List Pl} {i f : Nat} {T' : List Pl} {Ks' : List Value} (h : Anew w0 w B x nt most size probes N T i T' Ks') {p : Pl} (hp : T[i]? = some p) (h1 : p.st = 1)
    (hfree : FreeAt T' p.key f) (hno : ∀ (i : Nat) (q : Pl), T'[i]? = some q → q.st = 1 → q.key ≠ p.key) (hroom : (ents T).length < N) (hk : p.key.length ≤ 4096) (hne : x ≠ nt) (hnt : w0.heap.size ≤ nt) {K : Value} (hK : OwnKey w B K p.key) :
    f < T'.length ∧ Anew w0 (setPl w nt f ⟨1, p.key, p.num⟩ K) B x nt most size probes N T (i + 1) (T'.set f ⟨1, p.key, p.num⟩) (Ks'.set f K) := by
  obtain ⟨_, q, hq, _⟩ := id hfree
  have hfl : f < T'.length := (List.getElem?_eq_some_iff.1 hq).1
  have hlen := h.perm.length_eq
  have hi : ents (T.take (i + 1)) = ents (T.take i) ++ [(p.key, p.num)] := by rw [ents_take hp, ent, if_pos h1]; rfl
  have hle := ents_take_le T (i + 1)
  rw [hi, List.length_append, List.length_cons, List.length_nil] at hle
  obtain ⟨g1, g2, q', hq', g3⟩ := put_good (n := p.num) h.good hfree hno (by rw [h.gone, h.len]; omega)
  have hg := h.gone
  refine ⟨hfl, h.ix.put hne hfl ⟨1, p.key, p.num⟩ K (hK.mono fun g hg => .inl hg), g1, ?_, by omega, by rw [List.length_set]; exact h.len, fun r hr => ?_, h.chg.trans (C := fun g => g = nt) (setPl_chg _ _ _ _ _) fun g hg hl => by subst hg; omega⟩
  · rw [hi]
    exact g2.trans ((List.Perm.cons _ h.perm).trans (List.perm_append_comm (l₁ := [(p.key, p.num)])))
  · rcases List.mem_or_eq_of_mem_set hr with hr | rfl
    · exact h.keys r hr
    · exact hk
/-- a key that is yet to be laid isn't there -/
theorem Anew.new {w0 w : World} {B : Nat → Prop} {x nt most size probes N : Nat} {T : List Pl} {i : Nat} {T' : List Pl} {Ks' : List Value} (h : Anew w0 w B x nt most size probes N T i T' Ks') {p : Pl} (hp : T[i]? = some p) (h1 : p.st = 1) (hG : HGood T) :
    ∃ f, findP T' p.key = (none, some f) ∧ FreeAt T' p.key f ∧ ∀ (i : Nat) (q : Pl), T'[i]? = some q → q.st = 1 → q.key ≠ p.key := by
  rcases find_spec h.good p.key with ⟨j, q, _, hq, hq1, hqk⟩ | ⟨f, h2, h3, h4⟩
  · have hm := h.perm.mem_iff.1 (mem_ents.2 ⟨j, q, hq, hq1, hqk, rfl⟩)
    obtain ⟨k, r, hr, hr1, hrk, _⟩ := mem_ents.1 hm
    rw [List.getElem?_take] at hr
    split at hr
    · rename_i hki
      exact absurd (hG.keys k i r p hr hp hr1 h1 hrk) (by omega)
    · cases hr
  · exact ⟨f, h2, h3, h4⟩

theorem TabAt.chg {w w' : World} {B : Nat → Prop} {tb x : Nat} {T : List Pl} {Ks : List Value} {cs : Array Value} (h : TabAt w B tb T Ks) (hb : Blk w x 51 cs) (hne : x ≠ tb) (hc : Chg (fun b => b = x) w w') : TabAt w' B tb T Ks :=
  ⟨hc.blk h.blk (Ne.symm hne), h.len, fun i p K h1 h2 => (h.keys i p K h1 h2).keep hc fun A n c e a ha => (h.keys i p K h1 h2).ne hb (by decide) A n c e a ha, h.inB⟩
set_option maxHeartbeats 1000000 in
set_option maxRecDepth 100000 in
theorem grow_any {w : World} {B : Nat → Prop} {x tb most size marks probes : Nat} {T : List Pl} {Ks : List Value} (hI : IxAt w B x tb most size marks probes T Ks) (hG : HGood T) (hsz : (ents T).length = size) (hl : T.length ≤ 4194400) (hs4 : 4 * size ≤ 3 * T.length) (hk : ∀ p ∈ T, p.key.length ≤ 4096) (hne : x ≠ tb) :
    Calls Try.prog 19 #[.pointer (some ⟨x, 0, none⟩)] w fun e w' => e = .returned (.tuple #[]) ∧ ∃ T' Ks', Anew w w' B x w.heap.size most size probes (if size * 2 + 2 > T.length then T.length * 2 else T.length) T T.length T' Ks' := by
  obtain ⟨pw, hp1, hp2⟩ := hI.pow
  have hT0 : 0 < T.length := hG.pos
  obtain ⟨N, hN⟩ : ∃ N, N = if size * 2 + 2 > T.length then T.length * 2 else T.length := ⟨_, rfl⟩
  have hNp : ∃ k, N = 2 ^ k ∧ k ≤ 40 := by
    have hlt : pw < 23 := (Nat.pow_lt_pow_iff_right (a := 2) (by omega)).1 (by rw [← hp1]; omega)
    rw [hN]; split
    · exact ⟨pw + 1, by rw [hp1, Nat.pow_succ], by omega⟩
    · exact ⟨pw, hp1, hp2⟩
  have hroom : size < N ∧ 0 < N ∧ N ≤ 8388800 := by rw [hN]; split <;> omega
  rw [← hN]
  obtain ⟨i0, hi0, hz0, hz1, hz2⟩ := info_parts infoPl
  have hmk := fun (w : World) => run_make (P := Try.prog) (w := w) 49 56 i0 _ Try.underlying49 hi0 hz0 .i64 .i64 (N : Int) (N : Int) (by omega) (by omega) (by rw [hz2]; omega) (by omega)
  simp only [hz1, Int.toNat_natCast] at hmk
  have hx := hI.inB
  have hxl := hI.blk.lt
  have a4 : w.cell? ⟨x, 4, none⟩ = some (.slice (some ⟨tb, 0, none⟩) T.length T.length) := hI.blk.cell 4
  have a1 : w.cell? ⟨x, 1, none⟩ = some (.int .i64 size) := hI.blk.cell 1
  have a2 : w.cell? ⟨x, 2, none⟩ = some (.int .i64 marks) := hI.blk.cell 2
  have f2 : w.frozen? ⟨x, 2, none⟩ = false := hI.blk.frozen 2
  have f4 : w.frozen? ⟨x, 4, none⟩ = false := hI.blk.frozen 4
  have hEm := empty_good N hroom.2.1
  have HS := hide (show Anew w (((w.setCell ⟨x, 4, none⟩ (.slice (some ⟨w.heap.size, 0, none⟩) N N)).setCell ⟨x, 2, none⟩ (.int .i64 0)).alloc (.cells (madeCells #[.int .u8 0, .slice none 0 0, .int .i64 0] (N * 3)) 56)) B x w.heap.size most size probes N T 0 (List.replicate N ⟨0, [], 0⟩) (List.replicate N (.slice none 0 0)) from by
    have hs : ((w.setCell ⟨x, 4, none⟩ (.slice (some ⟨w.heap.size, 0, none⟩) N N)).setCell ⟨x, 2, none⟩ (.int .i64 0)).heap.size = w.heap.size := by simp
    have ht := Blk.new ((w.setCell ⟨x, 4, none⟩ (.slice (some ⟨w.heap.size, 0, none⟩) N N)).setCell ⟨x, 2, none⟩ (.int .i64 0)) 56 (madeCells #[.int .u8 0, .slice none 0 0, .int .i64 0] (N * 3))
    rw [hs] at ht
    refine ⟨⟨?_, TabAt.made ht (.inr rfl), by rw [List.length_replicate]; exact hNp, .inl hx⟩, hEm.1, by rw [hEm.2.1, List.take_zero]; exact .nil, hEm.2.2, List.length_replicate, fun p hp => by rw [(List.mem_replicate.1 hp).2]; exact Nat.zero_le _, (Chg.setCell (B := fun b => b = x) (Chg.setCell (B := fun b => b = x) (Chg.refl _ w) (p := ⟨x, 4, none⟩) (.inl rfl) _) (p := ⟨x, 2, none⟩) (.inl rfl) _).alloc _⟩
    rw [List.length_replicate]
    exact ((hI.blk.set_ 4 _).set_ 2 _).ext (Ext.alloc _ _))
  have hcond : ((size : Int) + 1) * 2 > (T.length : Int) ∨ ¬ ((size : Int) + 1) * 2 > (T.length : Int) := by omega
  have HX := hide hI.blk; have HT := hide hI.tab; have HG := hide hG; have HK := hide hk; have HSZ := hide hsz; have HNE := hide (show x ≠ w.heap.size by omega)
  clear hI hG hsz hk hi0 hz0 hz1 hz2 hp1 hp2 hNp hEm
  by_cases hc : (T.length : Int) < ((size : Int) + 1) * 2
  · have hN2 : (N : Int) = (T.length : Int) * 2 := by rw [if_pos (by omega)] at hN; omega
    rw [hN2] at hmk
    clear hN hcond
    go_enter Try.func19, Try.ntmps19
    go_wp2_with fail
    clear hmk a1 a2 a4 f2 f4
    generalize ((w.setCell ⟨x, 4, none⟩ (.slice (some ⟨w.heap.size, 0, none⟩) N N)).setCell ⟨x, 2, none⟩ (.int .i64 0)).alloc (.cells (madeCells #[.int .u8 0, .slice none 0 0, .int .i64 0] (N * 3)) 56) = W1 at *
    go_loopw [34] (fun s34 w' => ∃ (i : Nat) (T' : List Pl) (Ks' : List Value), i ≤ T.length ∧ s34 = .int .i64 i ∧ Hid (Anew w w' B x w.heap.size most size probes N T i T' Ks')) (fun s34 _ => T.length - (intOf s34).toNat)
    case atStart => exact ⟨0, _, _, by omega, rfl, HS.out⟩
    case round =>
      obtain ⟨i, T', Ks', hin, rfl, hA⟩ := hrel
      clear HS
      by_cases h : i < T.length
      · obtain ⟨p, hp⟩ : ∃ p, T[i]? = some p := ⟨_, List.getElem?_eq_getElem h⟩
        have HTr := HT.out.chg HX.out hne hA.out.chg
        obtain ⟨A5, n5, c5, b0, b1, b2, hK5, hKs⟩ := HTr.at_ hp
        have hOK := hide (HTr.keys i p _ hp hKs)
        have hpk := HK.out p (List.mem_of_getElem? hp)
        have HP := hide hp
        have HK5 := hide hK5
        clear HTr hKs hp hK5
        obtain ⟨st, pk, pn⟩ := p
        dsimp only at b0 b1 b2 hpk
        go_upto_region 8 with fail
        have HE5 := hide (Ext.alloc wr (.cells #[.int .u8 (st : Int), .slice A5 n5 c5, .int .i64 pn] 56))
        have HB5 := hide (Blk.new wr 56 #[.int .u8 (st : Int), .slice A5 n5 c5, .int .i64 pn])
        generalize wr.alloc (.cells #[.int .u8 (st : Int), .slice A5 n5 c5, .int .i64 pn] 56) = W5 at *
        clear b0 b1 b2
        have q0 : W5.cell? ⟨wr.heap.size, 0, none⟩ = some (.int .u8 (st : Int)) := HB5.out.cell 0
        by_cases h1 : st = 1
        · subst h1
          have q0 : W5.cell? ⟨wr.heap.size, 0, none⟩ = some (.int .u8 1) := q0
          have q1 : W5.cell? ⟨wr.heap.size, 1, none⟩ = some (.slice A5 n5 c5) := HB5.out.cell 1
          have q2 : W5.cell? ⟨wr.heap.size, 2, none⟩ = some (.int .i64 pn) := HB5.out.cell 2
          have HAn := hide (hA.out.go HE5.out)
          obtain ⟨f, hf, hfree, hno⟩ := hA.out.new HP.out rfl HG.out
          have HF := hide (find_any pk A5 n5 c5 W5 _ x _ _ _ _ _ T' Ks' HAn.out.ix (HK5.out.ext HE5.out) hA.out.good.st (by have h9 := HK5.out.len; dsimp only at h9; omega))
          rw [hf] at HF
          have HFR := hide (And.intro hfree hno)
          clear hf hfree hno
          have a4 : W5.cell? ⟨x, 4, none⟩ = some (.slice (some ⟨w.heap.size, 0, none⟩) T'.length T'.length) := HAn.out.ix.blk.cell 4
          go_wp2_with fail
          refine HF.out.mono ?_
          rintro e w6 ⟨rfl, x6⟩
          simp only [frV]
          have q0 := cell_ext (x6.cell q0)
          have q1 := cell_ext (x6.cell q1)
          have q2 := cell_ext (x6.cell q2)
          have a4 := cell_ext (x6.cell a4)
          have HX6 := hide x6; clear x6
          obtain ⟨qf, hqf, _⟩ := HFR.out.1.2
          have hfl : f < T'.length := (List.getElem?_eq_some_iff.1 hqf).1
          go_wp2_with fail
          refine wp_region_ext 7 (by kernel_rfl) (by kernel_rfl) (by kernel_rfl) ?_
          iterate 7
            refine wpE_k (by kernel_rfl) (by kernel_rfl) ?_
            apply Exists.intro
            refine ⟨fun w1 hw1 => ?_, fun K hK => ?_⟩
            · go_simp; first | done | rfl
            go_simp; refine hK _ _ ?_; clear hK K
          refine wpE_nil ⟨rfl, by kernel_rfl, fun wq hwq => ?_⟩
          simp only [EndQ, List.drop]
          have HA7 := hide (HAn.out.go (HX6.out.trans hwq))
          obtain ⟨_, _, _, d0, d1, d2, _⟩ := HA7.out.ix.tab.at_ hqf
          have g0 : wq.frozen? ⟨w.heap.size, f * 3, none⟩ = false := HA7.out.ix.tab.blk.frozen _
          have g1 : wq.frozen? ⟨w.heap.size, f * 3 + 1, none⟩ = false := HA7.out.ix.tab.blk.frozen _
          have g2 : wq.frozen? ⟨w.heap.size, f * 3 + 2, none⟩ = false := HA7.out.ix.tab.blk.frozen _
          have hOQ := hide (hOK.out.ext (HE5.out.trans (HX6.out.trans hwq)))
          clear q0 q1 q2 a4 hwq
          go_wp2_with fail
          go_roundw
          case rel => exact ⟨i + 1, _, _, by omega, by go_num, (HA7.out.lay HP.out rfl HFR.out.1 HFR.out.2 (by have := HSZ.out; omega) hpk HNE.out (Nat.le_refl _) hOQ.out).2⟩
          case measure => simp [intOf]; omega
        · have h2 : ¬ ((st : Int) = 1) := by omega
          have hbq : ((st : Int) == 1) = false := by simpa using h2
          go_wp2_with fail
          go_roundw
          case rel => exact ⟨i + 1, T', Ks', by omega, by go_num, (hA.out.go HE5.out).skip HP.out h1⟩
          case measure => simp [intOf]; omega
      · go_wp2_with fail
        go_end0
        obtain rfl : i = T.length := by omega
        exact ⟨rfl, T', Ks', hA.out⟩
  · have hN2 : (N : Int) = (T.length : Int) := by rw [if_neg (by omega)] at hN; omega
    rw [hN2] at hmk
    clear hN hcond
    go_enter Try.func19, Try.ntmps19
    go_wp2_with fail
    clear hmk a1 a2 a4 f2 f4
    generalize ((w.setCell ⟨x, 4, none⟩ (.slice (some ⟨w.heap.size, 0, none⟩) N N)).setCell ⟨x, 2, none⟩ (.int .i64 0)).alloc (.cells (madeCells #[.int .u8 0, .slice none 0 0, .int .i64 0] (N * 3)) 56) = W1 at *
    go_loopw [34] (fun s34 w' => ∃ (i : Nat) (T' : List Pl) (Ks' : List Value), i ≤ T.length ∧ s34 = .int .i64 i ∧ Hid (Anew w w' B x w.heap.size most size probes N T i T' Ks')) (fun s34 _ => T.length - (intOf s34).toNat)
    case atStart => exact ⟨0, _, _, by omega, rfl, HS.out⟩
    case round =>
      obtain ⟨i, T', Ks', hin, rfl, hA⟩ := hrel
      clear HS
      by_cases h : i < T.length
      · obtain ⟨p, hp⟩ : ∃ p, T[i]? = some p := ⟨_, List.getElem?_eq_getElem h⟩
        have HTr := HT.out.chg HX.out hne hA.out.chg
        obtain ⟨A5, n5, c5, b0, b1, b2, hK5, hKs⟩ := HTr.at_ hp
        have hOK := hide (HTr.keys i p _ hp hKs)
        have hpk := HK.out p (List.mem_of_getElem? hp)
        have HP := hide hp
        have HK5 := hide hK5
        clear HTr hKs hp hK5
        obtain ⟨st, pk, pn⟩ := p
        dsimp only at b0 b1 b2 hpk
        go_upto_region 8 with fail
        have HE5 := hide (Ext.alloc wr (.cells #[.int .u8 (st : Int), .slice A5 n5 c5, .int .i64 pn] 56))
        have HB5 := hide (Blk.new wr 56 #[.int .u8 (st : Int), .slice A5 n5 c5, .int .i64 pn])
        generalize wr.alloc (.cells #[.int .u8 (st : Int), .slice A5 n5 c5, .int .i64 pn] 56) = W5 at *
        clear b0 b1 b2
        have q0 : W5.cell? ⟨wr.heap.size, 0, none⟩ = some (.int .u8 (st : Int)) := HB5.out.cell 0
        by_cases h1 : st = 1
        · subst h1
          have q0 : W5.cell? ⟨wr.heap.size, 0, none⟩ = some (.int .u8 1) := q0
          have q1 : W5.cell? ⟨wr.heap.size, 1, none⟩ = some (.slice A5 n5 c5) := HB5.out.cell 1
          have q2 : W5.cell? ⟨wr.heap.size, 2, none⟩ = some (.int .i64 pn) := HB5.out.cell 2
          have HAn := hide (hA.out.go HE5.out)
          obtain ⟨f, hf, hfree, hno⟩ := hA.out.new HP.out rfl HG.out
          have HF := hide (find_any pk A5 n5 c5 W5 _ x _ _ _ _ _ T' Ks' HAn.out.ix (HK5.out.ext HE5.out) hA.out.good.st (by have h9 := HK5.out.len; dsimp only at h9; omega))
          rw [hf] at HF
          have HFR := hide (And.intro hfree hno)
          clear hf hfree hno
          have a4 : W5.cell? ⟨x, 4, none⟩ = some (.slice (some ⟨w.heap.size, 0, none⟩) T'.length T'.length) := HAn.out.ix.blk.cell 4
          go_wp2_with fail
          refine HF.out.mono ?_
          rintro e w6 ⟨rfl, x6⟩
          simp only [frV]
          have q0 := cell_ext (x6.cell q0)
          have q1 := cell_ext (x6.cell q1)
          have q2 := cell_ext (x6.cell q2)
          have a4 := cell_ext (x6.cell a4)
          have HX6 := hide x6; clear x6
          obtain ⟨qf, hqf, _⟩ := HFR.out.1.2
          have hfl : f < T'.length := (List.getElem?_eq_some_iff.1 hqf).1
          go_wp2_with fail
          refine wp_region_ext 7 (by kernel_rfl) (by kernel_rfl) (by kernel_rfl) ?_
          iterate 7
            refine wpE_k (by kernel_rfl) (by kernel_rfl) ?_
            apply Exists.intro
            refine ⟨fun w1 hw1 => ?_, fun K hK => ?_⟩
            · go_simp; first | done | rfl
            go_simp; refine hK _ _ ?_; clear hK K
          refine wpE_nil ⟨rfl, by kernel_rfl, fun wq hwq => ?_⟩
          simp only [EndQ, List.drop]
          have HA7 := hide (HAn.out.go (HX6.out.trans hwq))
          obtain ⟨_, _, _, d0, d1, d2, _⟩ := HA7.out.ix.tab.at_ hqf
          have g0 : wq.frozen? ⟨w.heap.size, f * 3, none⟩ = false := HA7.out.ix.tab.blk.frozen _
          have g1 : wq.frozen? ⟨w.heap.size, f * 3 + 1, none⟩ = false := HA7.out.ix.tab.blk.frozen _
          have g2 : wq.frozen? ⟨w.heap.size, f * 3 + 2, none⟩ = false := HA7.out.ix.tab.blk.frozen _
          have hOQ := hide (hOK.out.ext (HE5.out.trans (HX6.out.trans hwq)))
          clear q0 q1 q2 a4 hwq
          go_wp2_with fail
          go_roundw
          case rel => exact ⟨i + 1, _, _, by omega, by go_num, (HA7.out.lay HP.out rfl HFR.out.1 HFR.out.2 (by have := HSZ.out; omega) hpk HNE.out (Nat.le_refl _) hOQ.out).2⟩
          case measure => simp [intOf]; omega
        · have h2 : ¬ ((st : Int) = 1) := by omega
          have hbq : ((st : Int) == 1) = false := by simpa using h2
          go_wp2_with fail
          go_roundw
          case rel => exact ⟨i + 1, T', Ks', by omega, by go_num, (hA.out.go HE5.out).skip HP.out h1⟩
          case measure => simp [intOf]; omega
      · go_wp2_with fail
        go_end0
        obtain rfl : i = T.length := by omega
        exact ⟨rfl, T', Ks', hA.out⟩
end Go.Proofs.Ytlpbkhdpfmknkaa
