/-
  hashidx: grow lays the table anew.
  hashidx: Put.
  hashidx: Put at a key that is not there.
  hashidx: Put at a key that is not there: the walk.
-/
import Derived.Test.YtahdiiaadjdmcaaGaH
namespace Go.Proofs.Ytahdiiaadjdmcaa
open Go.RowKit

theorem ents_take {T : List Pl} {i : Nat} {p : Pl} (h : T[i]? = some p) : ents (T.take (i + 1)) = ents (T.take i) ++ (ent p).toList := by
  obtain ⟨hi, e⟩ := List.getElem?_eq_some_iff.1 h
  rw [List.take_succ_eq_append_getElem hi, e]
  unfold ents
  rw [List.filterMap_append]
  congr 1
theorem ents_take_le (T : List Pl) (i : Nat) : (ents (T.take i)).length ≤ (ents T).length := by
  unfold ents
  exact ((List.take_sublist i T).filterMap ent).length_le
/-- so many places are laid anew -/
structure Anew (w0 w : World) (B : Nat → Prop) (x nt most size probes N : Nat) (T : List Pl) (i : Nat) (T' : List Pl) (Ks' : List Value) : Prop where
  ix : IxAt w (fun b => B b ∨ b = nt) x nt most size 0 probes T' Ks'
  good : HGood T'
  perm : List.Perm (ents T') (ents (T.take i))
  gone : goneN T' = 0
  len : T'.length = N
  keys : ∀ p ∈ T', p.key.length ≤ 4096
  chg : Chg (fun b => b = x) w0 w
theorem Anew.go {w0 w w' : World} {B : Nat → Prop} {x nt most size probes N : Nat} {T : List Pl} {i : Nat} {T' : List Pl} {Ks' : List Value} (h : Anew w0 w B x nt most size probes N T i T' Ks') (hw : Ext w w') : Anew w0 w' B x nt most size probes N T i T' Ks' :=
  ⟨h.ix.ext hw, h.good, h.perm, h.gone, h.len, h.keys, h.chg.trans' (Chg.of hw)⟩
theorem Anew.skip {w0 w : World} {B : Nat → Prop} {x nt most size probes N : Nat} {T : List Pl} {i : Nat} {T' : List Pl} {Ks' : List Value} (h : Anew w0 w B x nt most size probes N T i T' Ks') {p : Pl} (hp : T[i]? = some p) (h1 : p.st ≠ 1) : Anew w0 w B x nt most size probes N T (i + 1) T' Ks' :=
  ⟨h.ix, h.good, by rw [ents_take hp, ent, if_neg h1]; simpa using h.perm, h.gone, h.len, h.keys, h.chg⟩
/-- the next used place is laid -/
theorem Anew.lay {w0 w : World} {B : Nat → Prop} {x nt most size probes N : Nat} {T : List Pl} {i f : Nat} {T' : List Pl} {Ks' : List Value} (h : Anew w0 w B x nt most size probes N T i T' Ks') {p : Pl} (hp : T[i]? = some p) (h1 : p.st = 1)
    (hfree : FreeAt T' p.key f) (hno : ∀ (i : Nat) (q : Pl), T'[i]? = some q → q.st = 1 → q.key ≠ p.key) (hroom : (ents T).length < N) (hk : p.key.length ≤ 4096) (hne : x ≠ nt) (hnt : w0.heap.size ≤ nt) {K : Value} (hK : OwnKey w B K p.key) :
    f < T'.length ∧ Anew w0 (setPl w nt f ⟨1, p.key, p.num⟩ K) B x nt most size probes N T (i + 1) (T'.set f ⟨1, p.key, p.num⟩) (Ks'.set f K) := by
  obtain ⟨_, q, hq, _⟩ := id hfree
  have hfl : f < T'.length := (List.getElem?_eq_some_iff.1 hq).1
  have hlen := h.perm.length_eq
  have hi : ents (T.take (i + 1)) = ents (T.take i) ++ [(p.key, p.num)] := by rw [ents_take hp, ent, if_pos h1]; rfl
  have hle := ents_take_le T (i + 1)
  rw [hi, List.length_append, List.length_cons, List.length_nil] at hle
  obtain ⟨g1, g2, q', hq', g3⟩ := put_good (n := p.num) h.good hfree hno (by rw [h.gone, h.len]; omega)
  have hg := h.gone
  refine ⟨hfl, h.ix.put hne hfl ⟨1, p.key, p.num⟩ K (hK.mono fun g hg => .inl hg), g1, ?_, by omega, by rw [List.length_set]; exact h.len, fun r hr => ?_, h.chg.trans (C := fun g => g = nt) (setPl_chg _ _ _ _ _) fun g hg hl => by subst hg; omega⟩
  · rw [hi]
    exact g2.trans ((List.Perm.cons _ h.perm).trans (List.perm_append_comm (l₁ := [(p.key, p.num)])))
  · rcases List.mem_or_eq_of_mem_set hr with hr | rfl
    · exact h.keys r hr
    · exact hk
/-- a key that is yet to be laid isn't there -/
theorem Anew.new {w0 w : World} {B : Nat → Prop} {x nt most size probes N : Nat} {T : List Pl} {i : Nat} {T' : List Pl} {Ks' : List Value} (h : Anew w0 w B x nt most size probes N T i T' Ks') {p : Pl} (hp : T[i]? = some p) (h1 : p.st = 1) (hG : HGood T) :
    ∃ f, findP T' p.key = (none, some f) ∧ FreeAt T' p.key f ∧ ∀ (i : Nat) (q : Pl), T'[i]? = some q → q.st = 1 → q.key ≠ p.key := by
  rcases find_spec h.good p.key with ⟨j, q, _, hq, hq1, hqk⟩ | ⟨f, h2, h3, h4⟩
  · have hm := h.perm.mem_iff.1 (mem_ents.2 ⟨j, q, hq, hq1, hqk, rfl⟩)
    obtain ⟨k, r, hr, hr1, hrk, _⟩ := mem_ents.1 hm
    rw [List.getElem?_take] at hr
    split at hr
    · rename_i hki
      exact absurd (hG.keys k i r p hr hp hr1 h1 hrk) (by omega)
    · cases hr
  · exact ⟨f, h2, h3, h4⟩

theorem TabAt.chg {w w' : World} {B : Nat → Prop} {tb x : Nat} {T : List Pl} {Ks : List Value} {cs : Array Value} (h : TabAt w B tb T Ks) (hb : Blk w x 136 cs) (hne : x ≠ tb) (hc : Chg (fun b => b = x) w w') : TabAt w' B tb T Ks :=
  ⟨hc.blk h.blk (Ne.symm hne), h.len, fun i p K h1 h2 => (h.keys i p K h1 h2).keep hc fun A n c e a ha => (h.keys i p K h1 h2).ne hb (by decide) A n c e a ha, h.inB⟩
set_option maxHeartbeats 1000000 in
set_option maxRecDepth 100000 in
theorem grow_any {w : World} {B : Nat → Prop} {x tb most size marks probes : Nat} {T : List Pl} {Ks : List Value} (hI : IxAt w B x tb most size marks probes T Ks) (hG : HGood T) (hsz : (ents T).length = size) (hl : T.length ≤ 4194400) (hs4 : 4 * size ≤ 3 * T.length) (hk : ∀ p ∈ T, p.key.length ≤ 4096) (hne : x ≠ tb) :
    Calls Try.prog 95 #[.pointer (some ⟨x, 0, none⟩)] w fun e w' => e = .returned (.tuple #[]) ∧ ∃ T' Ks', Anew w w' B x w.heap.size most size probes (if size * 2 + 2 > T.length then T.length * 2 else T.length) T T.length T' Ks' := by
  obtain ⟨pw, hp1, hp2⟩ := hI.pow
  have hT0 : 0 < T.length := hG.pos
  obtain ⟨N, hN⟩ : ∃ N, N = if size * 2 + 2 > T.length then T.length * 2 else T.length := ⟨_, rfl⟩
  have hNp : ∃ k, N = 2 ^ k ∧ k ≤ 40 := by
    have hlt : pw < 23 := (Nat.pow_lt_pow_iff_right (a := 2) (by omega)).1 (by rw [← hp1]; omega)
    rw [hN]; split
    · exact ⟨pw + 1, by rw [hp1, Nat.pow_succ], by omega⟩
    · exact ⟨pw, hp1, hp2⟩
  have hroom : size < N ∧ 0 < N ∧ N ≤ 8388800 := by rw [hN]; split <;> omega
  rw [← hN]
  obtain ⟨i0, hi0, hz0, hz1, hz2⟩ := info_parts infoPl
  have hmk := fun (w : World) => run_make (P := Try.prog) (w := w) 134 145 i0 _ Try.underlying134 hi0 hz0 .i64 .i64 (N : Int) (N : Int) (by omega) (by omega) (by rw [hz2]; omega) (by omega)
  simp only [hz1, Int.toNat_natCast] at hmk
  have hx := hI.inB
  have hxl := hI.blk.lt
  have a4 : w.cell? ⟨x, 4, none⟩ = some (.slice (some ⟨tb, 0, none⟩) T.length T.length) := hI.blk.cell 4
  have a1 : w.cell? ⟨x, 1, none⟩ = some (.int .i64 size) := hI.blk.cell 1
  have a2 : w.cell? ⟨x, 2, none⟩ = some (.int .i64 marks) := hI.blk.cell 2
  have f2 : w.frozen? ⟨x, 2, none⟩ = false := hI.blk.frozen 2
  have f4 : w.frozen? ⟨x, 4, none⟩ = false := hI.blk.frozen 4
  have hEm := empty_good N hroom.2.1
  have HS := hide (show Anew w (((w.setCell ⟨x, 4, none⟩ (.slice (some ⟨w.heap.size, 0, none⟩) N N)).setCell ⟨x, 2, none⟩ (.int .i64 0)).alloc (.cells (madeCells #[.int .u8 0, .slice none 0 0, .int .i64 0] (N * 3)) 145)) B x w.heap.size most size probes N T 0 (List.replicate N ⟨0, [], 0⟩) (List.replicate N (.slice none 0 0)) from by
    have hs : ((w.setCell ⟨x, 4, none⟩ (.slice (some ⟨w.heap.size, 0, none⟩) N N)).setCell ⟨x, 2, none⟩ (.int .i64 0)).heap.size = w.heap.size := by simp
    have ht := Blk.new ((w.setCell ⟨x, 4, none⟩ (.slice (some ⟨w.heap.size, 0, none⟩) N N)).setCell ⟨x, 2, none⟩ (.int .i64 0)) 145 (madeCells #[.int .u8 0, .slice none 0 0, .int .i64 0] (N * 3))
    rw [hs] at ht
    refine ⟨⟨?_, TabAt.made ht (.inr rfl), by rw [List.length_replicate]; exact hNp, .inl hx⟩, hEm.1, by rw [hEm.2.1, List.take_zero]; exact .nil, hEm.2.2, List.length_replicate, fun p hp => by rw [(List.mem_replicate.1 hp).2]; exact Nat.zero_le _, (Chg.setCell (B := fun b => b = x) (Chg.setCell (B := fun b => b = x) (Chg.refl _ w) (p := ⟨x, 4, none⟩) (.inl rfl) _) (p := ⟨x, 2, none⟩) (.inl rfl) _).alloc _⟩
    rw [List.length_replicate]
    exact ((hI.blk.set_ 4 _).set_ 2 _).ext (Ext.alloc _ _))
  have hcond : ((size : Int) + 1) * 2 > (T.length : Int) ∨ ¬ ((size : Int) + 1) * 2 > (T.length : Int) := by omega
  have HX := hide hI.blk; have HT := hide hI.tab; have HG := hide hG; have HK := hide hk; have HSZ := hide hsz; have HNE := hide (show x ≠ w.heap.size by omega)
  clear hI hG hsz hk hi0 hz0 hz1 hz2 hp1 hp2 hNp hEm
  by_cases hc : (T.length : Int) < ((size : Int) + 1) * 2
  · have hN2 : (N : Int) = (T.length : Int) * 2 := by rw [if_pos (by omega)] at hN; omega
    rw [hN2] at hmk
    clear hN hcond
    go_enter Try.func95, Try.ntmps95
    go_wp2_with fail
    clear hmk a1 a2 a4 f2 f4
    generalize ((w.setCell ⟨x, 4, none⟩ (.slice (some ⟨w.heap.size, 0, none⟩) N N)).setCell ⟨x, 2, none⟩ (.int .i64 0)).alloc (.cells (madeCells #[.int .u8 0, .slice none 0 0, .int .i64 0] (N * 3)) 145) = W1 at *
    go_loopw [34] (fun s34 w' => ∃ (i : Nat) (T' : List Pl) (Ks' : List Value), i ≤ T.length ∧ s34 = .int .i64 i ∧ Hid (Anew w w' B x w.heap.size most size probes N T i T' Ks')) (fun s34 _ => T.length - (intOf s34).toNat)
    case atStart => exact ⟨0, _, _, by omega, rfl, HS.out⟩
    case round =>
      obtain ⟨i, T', Ks', hin, rfl, hA⟩ := hrel
      clear HS
      by_cases h : i < T.length
      · obtain ⟨p, hp⟩ : ∃ p, T[i]? = some p := ⟨_, List.getElem?_eq_getElem h⟩
        have HTr := HT.out.chg HX.out hne hA.out.chg
        obtain ⟨A5, n5, c5, b0, b1, b2, hK5, hKs⟩ := HTr.at_ hp
        have hOK := hide (HTr.keys i p _ hp hKs)
        have hpk := HK.out p (List.mem_of_getElem? hp)
        have HP := hide hp
        have HK5 := hide hK5
        clear HTr hKs hp hK5
        obtain ⟨st, pk, pn⟩ := p
        dsimp only at b0 b1 b2 hpk
        go_upto_region 8 with fail
        have HE5 := hide (Ext.alloc wr (.cells #[.int .u8 (st : Int), .slice A5 n5 c5, .int .i64 pn] 145))
        have HB5 := hide (Blk.new wr 145 #[.int .u8 (st : Int), .slice A5 n5 c5, .int .i64 pn])
        generalize wr.alloc (.cells #[.int .u8 (st : Int), .slice A5 n5 c5, .int .i64 pn] 145) = W5 at *
        clear b0 b1 b2
        have q0 : W5.cell? ⟨wr.heap.size, 0, none⟩ = some (.int .u8 (st : Int)) := HB5.out.cell 0
        by_cases h1 : st = 1
        · subst h1
          have q0 : W5.cell? ⟨wr.heap.size, 0, none⟩ = some (.int .u8 1) := q0
          have q1 : W5.cell? ⟨wr.heap.size, 1, none⟩ = some (.slice A5 n5 c5) := HB5.out.cell 1
          have q2 : W5.cell? ⟨wr.heap.size, 2, none⟩ = some (.int .i64 pn) := HB5.out.cell 2
          have HAn := hide (hA.out.go HE5.out)
          obtain ⟨f, hf, hfree, hno⟩ := hA.out.new HP.out rfl HG.out
          have HF := hide (find_any pk A5 n5 c5 W5 _ x _ _ _ _ _ T' Ks' HAn.out.ix (HK5.out.ext HE5.out) hA.out.good.st (by have h9 := HK5.out.len; dsimp only at h9; omega))
          rw [hf] at HF
          have HFR := hide (And.intro hfree hno)
          clear hf hfree hno
          have a4 : W5.cell? ⟨x, 4, none⟩ = some (.slice (some ⟨w.heap.size, 0, none⟩) T'.length T'.length) := HAn.out.ix.blk.cell 4
          go_wp2_with fail
          refine HF.out.mono ?_
          rintro e w6 ⟨rfl, x6⟩
          simp only [frV]
          have q0 := cell_ext (x6.cell q0)
          have q1 := cell_ext (x6.cell q1)
          have q2 := cell_ext (x6.cell q2)
          have a4 := cell_ext (x6.cell a4)
          have HX6 := hide x6; clear x6
          obtain ⟨qf, hqf, _⟩ := HFR.out.1.2
          have hfl : f < T'.length := (List.getElem?_eq_some_iff.1 hqf).1
          go_wp2_with fail
          refine wp_region_ext 7 (by kernel_rfl) (by kernel_rfl) (by kernel_rfl) ?_
          iterate 7
            refine wpE_k (by kernel_rfl) (by kernel_rfl) ?_
            apply Exists.intro
            refine ⟨fun w1 hw1 => ?_, fun K hK => ?_⟩
            · go_simp; first | done | rfl
            go_simp; refine hK _ _ ?_; clear hK K
          refine wpE_nil ⟨rfl, by kernel_rfl, fun wq hwq => ?_⟩
          simp only [EndQ, List.drop]
          have HA7 := hide (HAn.out.go (HX6.out.trans hwq))
          obtain ⟨_, _, _, d0, d1, d2, _⟩ := HA7.out.ix.tab.at_ hqf
          have g0 : wq.frozen? ⟨w.heap.size, f * 3, none⟩ = false := HA7.out.ix.tab.blk.frozen _
          have g1 : wq.frozen? ⟨w.heap.size, f * 3 + 1, none⟩ = false := HA7.out.ix.tab.blk.frozen _
          have g2 : wq.frozen? ⟨w.heap.size, f * 3 + 2, none⟩ = false := HA7.out.ix.tab.blk.frozen _
          have hOQ := hide (hOK.out.ext (HE5.out.trans (HX6.out.trans hwq)))
          clear q0 q1 q2 a4 hwq
          go_wp2_with fail
          go_roundw
          case rel => exact ⟨i + 1, _, _, by omega, by go_num, (HA7.out.lay HP.out rfl HFR.out.1 HFR.out.2 (by have := HSZ.out; omega) hpk HNE.out (Nat.le_refl _) hOQ.out).2⟩
          case measure => simp [intOf]; omega
        · have h2 : ¬ ((st : Int) = 1) := by omega
          have hbq : ((st : Int) == 1) = false := by simpa using h2
          go_wp2_with fail
          go_roundw
          case rel => exact ⟨i + 1, T', Ks', by omega, by go_num, (hA.out.go HE5.out).skip HP.out h1⟩
          case measure => simp [intOf]; omega
      · go_wp2_with fail
        go_end0
        obtain rfl : i = T.length := by omega
        exact ⟨rfl, T', Ks', hA.out⟩
  · have hN2 : (N : Int) = (T.length : Int) := by rw [if_neg (by omega)] at hN; omega
    rw [hN2] at hmk
    clear hN hcond
    go_enter Try.func95, Try.ntmps95
    go_wp2_with fail
    clear hmk a1 a2 a4 f2 f4
    generalize ((w.setCell ⟨x, 4, none⟩ (.slice (some ⟨w.heap.size, 0, none⟩) N N)).setCell ⟨x, 2, none⟩ (.int .i64 0)).alloc (.cells (madeCells #[.int .u8 0, .slice none 0 0, .int .i64 0] (N * 3)) 145) = W1 at *
    go_loopw [34] (fun s34 w' => ∃ (i : Nat) (T' : List Pl) (Ks' : List Value), i ≤ T.length ∧ s34 = .int .i64 i ∧ Hid (Anew w w' B x w.heap.size most size probes N T i T' Ks')) (fun s34 _ => T.length - (intOf s34).toNat)
    case atStart => exact ⟨0, _, _, by omega, rfl, HS.out⟩
    case round =>
      obtain ⟨i, T', Ks', hin, rfl, hA⟩ := hrel
      clear HS
      by_cases h : i < T.length
      · obtain ⟨p, hp⟩ : ∃ p, T[i]? = some p := ⟨_, List.getElem?_eq_getElem h⟩
        have HTr := HT.out.chg HX.out hne hA.out.chg
        obtain ⟨A5, n5, c5, b0, b1, b2, hK5, hKs⟩ := HTr.at_ hp
        have hOK := hide (HTr.keys i p _ hp hKs)
        have hpk := HK.out p (List.mem_of_getElem? hp)
        have HP := hide hp
        have HK5 := hide hK5
        clear HTr hKs hp hK5
        obtain ⟨st, pk, pn⟩ := p
        dsimp only at b0 b1 b2 hpk
        go_upto_region 8 with fail
        have HE5 := hide (Ext.alloc wr (.cells #[.int .u8 (st : Int), .slice A5 n5 c5, .int .i64 pn] 145))
        have HB5 := hide (Blk.new wr 145 #[.int .u8 (st : Int), .slice A5 n5 c5, .int .i64 pn])
        generalize wr.alloc (.cells #[.int .u8 (st : Int), .slice A5 n5 c5, .int .i64 pn] 145) = W5 at *
        clear b0 b1 b2
        have q0 : W5.cell? ⟨wr.heap.size, 0, none⟩ = some (.int .u8 (st : Int)) := HB5.out.cell 0
        by_cases h1 : st = 1
        · subst h1
          have q0 : W5.cell? ⟨wr.heap.size, 0, none⟩ = some (.int .u8 1) := q0
          have q1 : W5.cell? ⟨wr.heap.size, 1, none⟩ = some (.slice A5 n5 c5) := HB5.out.cell 1
          have q2 : W5.cell? ⟨wr.heap.size, 2, none⟩ = some (.int .i64 pn) := HB5.out.cell 2
          have HAn := hide (hA.out.go HE5.out)
          obtain ⟨f, hf, hfree, hno⟩ := hA.out.new HP.out rfl HG.out
          have HF := hide (find_any pk A5 n5 c5 W5 _ x _ _ _ _ _ T' Ks' HAn.out.ix (HK5.out.ext HE5.out) hA.out.good.st (by have h9 := HK5.out.len; dsimp only at h9; omega))
          rw [hf] at HF
          have HFR := hide (And.intro hfree hno)
          clear hf hfree hno
          have a4 : W5.cell? ⟨x, 4, none⟩ = some (.slice (some ⟨w.heap.size, 0, none⟩) T'.length T'.length) := HAn.out.ix.blk.cell 4
          go_wp2_with fail
          refine HF.out.mono ?_
          rintro e w6 ⟨rfl, x6⟩
          simp only [frV]
          have q0 := cell_ext (x6.cell q0)
          have q1 := cell_ext (x6.cell q1)
          have q2 := cell_ext (x6.cell q2)
          have a4 := cell_ext (x6.cell a4)
          have HX6 := hide x6; clear x6
          obtain ⟨qf, hqf, _⟩ := HFR.out.1.2
          have hfl : f < T'.length := (List.getElem?_eq_some_iff.1 hqf).1
          go_wp2_with fail
          refine wp_region_ext 7 (by kernel_rfl) (by kernel_rfl) (by kernel_rfl) ?_
          iterate 7
            refine wpE_k (by kernel_rfl) (by kernel_rfl) ?_
            apply Exists.intro
            refine ⟨fun w1 hw1 => ?_, fun K hK => ?_⟩
            · go_simp; first | done | rfl
            go_simp; refine hK _ _ ?_; clear hK K
          refine wpE_nil ⟨rfl, by kernel_rfl, fun wq hwq => ?_⟩
          simp only [EndQ, List.drop]
          have HA7 := hide (HAn.out.go (HX6.out.trans hwq))
          obtain ⟨_, _, _, d0, d1, d2, _⟩ := HA7.out.ix.tab.at_ hqf
          have g0 : wq.frozen? ⟨w.heap.size, f * 3, none⟩ = false := HA7.out.ix.tab.blk.frozen _
          have g1 : wq.frozen? ⟨w.heap.size, f * 3 + 1, none⟩ = false := HA7.out.ix.tab.blk.frozen _
          have g2 : wq.frozen? ⟨w.heap.size, f * 3 + 2, none⟩ = false := HA7.out.ix.tab.blk.frozen _
          have hOQ := hide (hOK.out.ext (HE5.out.trans (HX6.out.trans hwq)))
          clear q0 q1 q2 a4 hwq
          go_wp2_with fail
          go_roundw
          case rel => exact ⟨i + 1, _, _, by omega, by go_num, (HA7.out.lay HP.out rfl HFR.out.1 HFR.out.2 (by have := HSZ.out; omega) hpk HNE.out (Nat.le_refl _) hOQ.out).2⟩
          case measure => simp [intOf]; omega
        · have h2 : ¬ ((st : Int) = 1) := by omega
          have hbq : ((st : Int) == 1) = false := by simpa using h2
          go_wp2_with fail
          go_roundw
          case rel => exact ⟨i + 1, T', Ks', by omega, by go_num, (hA.out.go HE5.out).skip HP.out h1⟩
          case measure => simp [intOf]; omega
      · go_wp2_with fail
        go_end0
        obtain rfl : i = T.length := by omega
        exact ⟨rfl, T', Ks', hA.out⟩
end Go.Proofs.Ytahdiiaadjdmcaa

namespace Go.Proofs.Ytahdiiaadjdmcaa
open Go.RowKit

/-- what Put answers and leaves -/
def PutRes (E : List (List UInt8 × Int)) (most : Nat) (key : List UInt8) (v old : Int) (had : Bool) (err : Int) (E' : List (List UInt8 × Int)) : Prop :=
  (4096 < key.length ∧ old = 0 ∧ had = false ∧ err = 51 ∧ E' = E) ∨
  (key.length ≤ 4096 ∧ had = true ∧ err = 0 ∧ ∃ R, List.Perm E ((key, old) :: R) ∧ E' = (key, v) :: R) ∨
  (key.length ≤ 4096 ∧ (∀ u, (key, u) ∉ E) ∧ E.length = most ∧ old = 0 ∧ had = false ∧ err = 52 ∧ E' = E) ∨
  (key.length ≤ 4096 ∧ (∀ u, (key, u) ∉ E) ∧ E.length < most ∧ old = 0 ∧ had = false ∧ err = 0 ∧ E' = (key, v) :: E)
def PutPost (w : World) (B : Nat → Prop) (x most probes : Nat) (E : List (List UInt8 × Int)) (key : List UInt8) (v : Int) (e : Ending) (w' : World) : Prop :=
  ∃ (old : Int) (had : Bool) (err : Int) (E' : List (List UInt8 × Int)) (B' : Nat → Prop), e = .returned (.tuple #[.int .i64 old, .bool had, .int .i64 err]) ∧ PutRes E most key v old had err E' ∧ HIx w' B' x most (probes + 1) E' ∧ (∀ b, B' b → B b ∨ w.heap.size ≤ b) ∧ Chg B w w'
theorem set_same {α : Type} {l : List α} {i : Nat} {v : α} (h : l[i]? = some v) : l.set i v = l := by
  obtain ⟨hi, e⟩ := List.getElem?_eq_some_iff.1 h
  rw [← e]; exact List.set_getElem_self hi
/-- the number alone is written -/
theorem IxAt.putNum {w : World} {B : Nat → Prop} {x tb most size marks probes : Nat} {T : List Pl} {Ks : List Value} (h : IxAt w B x tb most size marks probes T Ks) (hne : x ≠ tb) {i : Nat} {p : Pl} (hp : T[i]? = some p) (v : Int) : IxAt (w.setCell ⟨tb, i * 3 + 2, none⟩ (.int .i64 v)) B x tb most size marks probes (T.set i ⟨p.st, p.key, v⟩) Ks := by
  have hi : i < T.length := (List.getElem?_eq_some_iff.1 hp).1
  have hiK : i < Ks.length := by rw [h.tab.len]; exact hi
  have hK : Ks[i]? = some Ks[i] := List.getElem?_eq_getElem hiK
  have e := tabC_set T Ks i ⟨p.st, p.key, v⟩ Ks[i] h.tab.len hi
  have s0 : (tabC T Ks).set (i * 3) (.int .u8 (p.st : Int)) = tabC T Ks := set_same (tabC_get hp hK 0 _ rfl)
  have s1 : (tabC T Ks).set (i * 3 + 1) Ks[i] = tabC T Ks := set_same (tabC_get hp hK 1 _ rfl)
  dsimp only at e
  rw [set_same hK, s0, s1] at e
  have hc := chg_one w ⟨tb, i * 3 + 2, none⟩ (.int .i64 v)
  refine ⟨by rw [List.length_set]; exact h.blk.far (p := ⟨tb, i * 3 + 2, none⟩) hne _, ⟨?_, by rw [List.length_set]; exact h.tab.len, fun j q L h1 h2 => ?_, h.tab.inB⟩, by rw [List.length_set]; exact h.pow, h.inB⟩
  · rw [e]
    have := h.tab.blk.set_ (i * 3 + 2) (.int .i64 v)
    simpa using this
  · have hkeep : ∀ {k : List UInt8}, OwnKey w B L k → OwnKey (w.setCell ⟨tb, i * 3 + 2, none⟩ (.int .i64 v)) B L k := fun ho => ho.keep hc fun A n c e a ha => ho.ne h.tab.blk (by decide) A n c e a ha
    by_cases hj : i = j
    · subst hj
      rw [List.getElem?_set_self hi] at h1
      injection h1 with h1
      subst h1
      exact hkeep (h.tab.keys i p L hp h2)
    · rw [List.getElem?_set_ne hj] at h1
      exact hkeep (h.tab.keys j q L h1 h2)
theorem blk_type {w : World} {g : Nat} {t t' : TypeId} {cs cs' : Array Value} (h : Blk w g t cs) (h' : Blk w g t' cs') : t = t' := by
  unfold Blk at h h'
  rw [h] at h'
  injection h' with h'
  injection h' with _ h'

set_option maxRecDepth 100000 in
/-- a key that is too long -/
theorem put_long {w : World} {B : Nat → Prop} {x most probes : Nat} {E : List (List UInt8 × Int)} (h : HIx w B x most probes E) (hp : probes ≤ 4611686018427387904) (key : List UInt8) (v : Int) (A : Option Addr) (n c : Nat) (hn : n = key.length) (hl : 4096 < n) (hn2 : n ≤ 4611686018427387904) :
    Calls Try.prog 83 #[.pointer (some ⟨x, 0, none⟩), .slice A n c, .int .i64 v] w (PutPost w B x most probes E key v) := by
  obtain ⟨tb, T, Ks, hI, hG, hE, h1, h2, h3, hne⟩ := h.at_
  have a3 : w.cell? ⟨x, 3, none⟩ = some (.int .i64 probes) := hI.blk.cell 3
  have f3 : w.frozen? ⟨x, 3, none⟩ = false := hI.blk.frozen 3
  have hC := hide (show Chg B w (w.setCell ⟨x, 3, none⟩ (.int .i64 ((probes : Int) + 1))) from (Chg.refl _ _).setCell (.inl hI.inB) _)
  have HR := hide (show PutRes E most key v 0 false 51 E from .inl ⟨by omega, rfl, rfl, rfl, rfl⟩)
  have HH := hide (show HIx (w.setCell ⟨x, 3, none⟩ (.int .i64 ((probes : Int) + 1))) B x most (probes + 1) E from ⟨⟨tb, T, Ks, hI.probe hne, hG, hE, h1, h2, h3, hne⟩, h.most, fun b hb => by simpa using h.old b hb⟩)
  have hl2 : (4096 : Int) < (n : Int) := by omega
  clear h hI hG hE h1 h2 h3 hne hn
  go_enter Try.func83, Try.ntmps83
  go_wp2_with fail
  go_ret3
  exact ⟨0, false, 51, E, B, rfl, HR.out, HH.out, fun _ hb => .inl hb, hC.out⟩

set_option maxRecDepth 100000 in
/-- a key that is there -/
theorem put_there {w : World} {B : Nat → Prop} {x most probes : Nat} {E : List (List UInt8 × Int)} (h : HIx w B x most probes E) (hp : probes ≤ 4611686018427387904) (key : List UInt8) (v : Int) (A : Option Addr) (n c : Nat) (hk : KeyAt w A n key) (ha : Aside B A) (hl : n ≤ 4096) (hin : ∃ u, (key, u) ∈ E) :
    Calls Try.prog 83 #[.pointer (some ⟨x, 0, none⟩), .slice A n c, .int .i64 v] w (PutPost w B x most probes E key v) := by
  obtain ⟨tb, T, Ks, hI, hG, hE, h1, h2, h3, hne⟩ := h.at_
  have hkx : KeyAt (w.setCell ⟨x, 3, none⟩ (.int .i64 ((probes : Int) + 1))) A n key := (chg_one w _ _).key hk fun a he hx => ha a he (by rw [hx]; exact hI.inB)
  have HF := hide (find_any key A n c _ B x tb most _ _ _ T Ks (hI.probe hne) hkx hG.st (by omega))
  have HI := hide (hI.probe hne)
  have a3 : w.cell? ⟨x, 3, none⟩ = some (.int .i64 probes) := hI.blk.cell 3
  have f3 : w.frozen? ⟨x, 3, none⟩ = false := hI.blk.frozen 3
  have HC := hide (show Chg B w (w.setCell ⟨x, 3, none⟩ (.int .i64 ((probes : Int) + 1))) from (Chg.refl _ _).setCell (.inl hI.inB) _)
  have hm := h.most
  have HO := hide h.old
  obtain ⟨i, p, hf, hpi, hp1, hpk⟩ : ∃ (i : Nat) (p : Pl), findP T key = (some i, some i) ∧ T[i]? = some p ∧ p.st = 1 ∧ p.key = key := by
    rcases find_spec hG key with h9 | ⟨f, _, _, h9⟩
    · exact h9
    · obtain ⟨u, hu⟩ := hin
      obtain ⟨i, p, q1, q2, q3, _⟩ := mem_ents.1 (hE.mem_iff.2 hu)
      exact absurd q3 (h9 i p q1 q2)
  rw [hf] at HF
  have HP := hide hpi
  have hil : i < T.length := (List.getElem?_eq_some_iff.1 hpi).1
  obtain ⟨hG2, R, r1, r2, r3⟩ := turn_good (p := ⟨1, key, v⟩) hG hpi hp1 (.inl ⟨rfl, hpk.symm⟩)
  have hER : List.Perm E ((key, p.num) :: R) := hpk ▸ (hE.symm.trans r1)
  have hEl := hER.length_eq
  rw [List.length_cons] at hEl
  have r3 : goneN (T.set i ⟨1, key, v⟩) = goneN T := r3
  have hkl := hk.len
  have HR := hide (show PutRes E most key v p.num true 0 ((key, v) :: R) from .inr (.inl ⟨by omega, rfl, rfl, R, hER, rfl⟩))
  have HW := hide (show HGood (T.set i ⟨1, key, v⟩) ∧ List.Perm (ents (T.set i ⟨1, key, v⟩)) ((key, v) :: R) ∧ 4 * (((key, v) :: R).length + goneN (T.set i ⟨1, key, v⟩)) ≤ 3 * (T.set i ⟨1, key, v⟩).length ∧ (T.set i ⟨1, key, v⟩).length ≤ 4 * most + 8 ∧ (∀ p ∈ T.set i ⟨1, key, v⟩, p.key.length ≤ 4096) ∧ x ≠ tb from
    ⟨hG2, r2, by rw [r3, List.length_set, List.length_cons]; omega, by rw [List.length_set]; exact h2, fun q hq => by
      rcases List.mem_or_eq_of_mem_set hq with hq | rfl
      · exact h3 q hq
      · dsimp only; omega, hne⟩)
  have hinB := hide (And.intro hI.inB hI.tab.inB)
  have HEl := hide hEl
  have HR3 := hide r3
  have hst1 := hide (And.intro hp1 hpk)
  have hl2 : ¬ (4096 : Int) < (n : Int) := by omega
  have hi0 : (0 : Int) ≤ (i : Int) := by omega
  have hi1 : (i : Int) < (T.length : Int) := by omega
  clear h hk hkx hI hE hf hpi hp1 hpk hG h1 h2 h3 ha hne hG2 r1 r2 r3 hER hEl hkl hin
  go_enter Try.func83, Try.ntmps83
  go_wp2_with fail
  refine HF.out.mono ?_
  rintro e w1 ⟨rfl, x1⟩
  have X1 := hide x1
  have HI1 := hide (HI.out.ext x1)
  obtain ⟨A5, n5, c5, b0, b1, b2, _, hKs⟩ := HI1.out.tab.at_ HP.out
  have a4 : w1.cell? ⟨x, 4, none⟩ = some (.slice (some ⟨tb, 0, none⟩) T.length T.length) := HI1.out.blk.cell 4
  clear x1 a3 f3 b0 b1
  simp only [frV]
  go_wp2_with fail
  have a4 := cell_ext a4
  have b2 := cell_ext b2
  refine wp_region_ext 17 (by kernel_rfl) (by kernel_rfl) (by kernel_rfl) ?_
  iterate 17
    refine wpE_k (by kernel_rfl) (by kernel_rfl) ?_
    apply Exists.intro
    refine ⟨fun w1 hw1 => ?_, fun K hK => ?_⟩
    · go_simp; first | done | rfl
    go_simp; refine hK _ _ ?_; clear hK K
  refine wpE_nil ⟨rfl, by kernel_rfl, fun wq hwq => ?_⟩
  simp only [EndQ, List.drop]
  have HIq := hide (HI1.out.ext hwq)
  obtain ⟨_, _, _, d0, d1, d2, hKq, hKs'⟩ := HIq.out.tab.at_ HP.out
  have g2 : wq.frozen? ⟨tb, i * 3 + 2, none⟩ = false := HIq.out.tab.blk.frozen _
  have XQ := hide (X1.out.trans hwq)
  clear a4 b2 hwq
  go_wp2_with fail
  go_ret3
  have hI9 := HIq.out.putNum HW.out.2.2.2.2.2 HP.out v
  rw [hst1.out.1, hst1.out.2, HEl.out, ← HR3.out] at hI9
  have hC9 := (HC.out.trans' (Chg.of XQ.out)).setCell (p := ⟨tb, i * 3 + 2, none⟩) (.inl hinB.out.2) (.int .i64 v)
  have he9 := HEl.out
  exact ⟨p.num, true, 0, _, B, rfl, HR.out, ⟨⟨tb, _, Ks, hI9, HW.out.1, HW.out.2.1, HW.out.2.2.1, HW.out.2.2.2.1, HW.out.2.2.2.2.1, HW.out.2.2.2.2.2⟩, ⟨by rw [List.length_cons]; omega, hm.2⟩, fun b hb => Nat.lt_of_lt_of_le (HO.out b hb) hC9.size⟩, fun _ hb => .inl hb, hC9⟩
end Go.Proofs.Ytahdiiaadjdmcaa

namespace Go.Proofs.Ytahdiiaadjdmcaa
open Go.RowKit

theorem OwnKey.lt {w : World} {B : Nat → Prop} {K : Value} {k : List UInt8} (h : OwnKey w B K k) : OwnKey w (fun b => B b ∧ b < w.heap.size) K k := by
  obtain ⟨A, n, c, rfl, h2, h3⟩ := h
  refine ⟨A, n, c, rfl, h2, fun a ha => ⟨h3 a ha, ?_⟩⟩
  subst ha
  rcases h2.2 with ⟨h4, _⟩ | ⟨g, cap, cur, h4, _, h5, _⟩
  · cases h4
  · injection h4 with h4
    injection h4 with h4
    subst h4
    exact Blk.lt h5
theorem IxAt.wide {w : World} {B C : Nat → Prop} {x tb most size marks probes : Nat} {T : List Pl} {Ks : List Value} (h : IxAt w B x tb most size marks probes T Ks) (hC : ∀ b, B b → C b) : IxAt w C x tb most size marks probes T Ks :=
  ⟨h.blk, ⟨h.tab.blk, h.tab.len, fun i p K h1 h2 => (h.tab.keys i p K h1 h2).mono hC, hC _ h.tab.inB⟩, h.pow, hC _ h.inB⟩
theorem IxAt.lt {w : World} {B : Nat → Prop} {x tb most size marks probes : Nat} {T : List Pl} {Ks : List Value} (h : IxAt w B x tb most size marks probes T Ks) : IxAt w (fun b => B b ∧ b < w.heap.size) x tb most size marks probes T Ks :=
  ⟨h.blk, ⟨h.tab.blk, h.tab.len, fun i p K h1 h2 => (h.tab.keys i p K h1 h2).lt, h.tab.inB, h.tab.blk.lt⟩, h.pow, h.inB, h.blk.lt⟩

/-- all is laid out for a new key: it comes to the place f -/
structure Ready (w0 W : World) (B B1 : Nat → Prop) (x tb most probes m : Nat) (T : List Pl) (Ks : List Value) (E : List (List UInt8 × Int)) (key : List UInt8) (f : Nat) (q : Pl) : Prop where
  ix : IxAt W B1 x tb most E.length m (probes + 1) T Ks
  good : HGood T
  perm : List.Perm (ents T) E
  at_ : T[f]? = some q
  free : FreeAt T key f
  no : ∀ (i : Nat) (p : Pl), T[i]? = some p → p.st = 1 → p.key ≠ key
  room : 4 * (E.length + goneN T + 1) ≤ 3 * T.length
  len : T.length ≤ 4 * most + 8
  keys : ∀ p ∈ T, p.key.length ≤ 4096
  ne : x ≠ tb
  sub : ∀ b, B1 b → B b ∨ w0.heap.size ≤ b
  chg : Chg B w0 W
theorem Ready.ext {w0 W W' : World} {B B1 : Nat → Prop} {x tb most probes m : Nat} {T : List Pl} {Ks : List Value} {E : List (List UInt8 × Int)} {key : List UInt8} {f : Nat} {q : Pl} (h : Ready w0 W B B1 x tb most probes m T Ks E key f q) (hw : Ext W W') : Ready w0 W' B B1 x tb most probes m T Ks E key f q :=
  { h with ix := h.ix.ext hw, chg := h.chg.trans' (Chg.of hw) }
theorem Ready.marks {w0 W : World} {B B1 : Nat → Prop} {x tb most probes m : Nat} {T : List Pl} {Ks : List Value} {E : List (List UInt8 × Int)} {key : List UInt8} {f : Nat} {q : Pl} (h : Ready w0 W B B1 x tb most probes m T Ks E key f q) (m2 : Nat) (u : Int) (hu : u = (m2 : Int)) : Ready w0 (W.setCell ⟨x, 2, none⟩ (.int .i64 u)) B B1 x tb most probes m2 T Ks E key f q :=
  { h with ix := h.ix.setMarks h.ne m2 u hu, chg := h.chg.setCell (h.sub x h.ix.inB) _ }
theorem Ready.fin {w0 W W9 : World} {B B1 : Nat → Prop} {x tb most probes m : Nat} {T : List Pl} {Ks : List Value} {E : List (List UInt8 × Int)} {key : List UInt8} {f : Nat} {q : Pl} (h : Ready w0 W B B1 x tb most probes m T Ks E key f q) (hm : m + (if q.st = 2 then 1 else 0) = goneN T) (hw : Ext W W9) (v : Int) {K : Value}
    (hK : OwnKey W9 (fun b => w0.heap.size ≤ b) K key) (hk : key.length ≤ 4096) (hE : E.length < most) (hmo : most ≤ 1048576) :
    let W11 := (setPl W9 tb f ⟨1, key, v⟩ K).setCell ⟨x, 1, none⟩ (.int .i64 ((E.length : Int) + 1))
    PutPost w0 B x most probes E key v (.returned (.tuple #[.int .i64 0, .bool false, .int .i64 0])) W11 := by
  have hfl : f < T.length := (List.getElem?_eq_some_iff.1 h.at_).1
  obtain ⟨g1, g2, q', hq', g3⟩ := put_good (n := v) h.good h.free h.no (by
    have h1 := h.perm.length_eq
    have h2 := h.room
    have h3 := h.good.pos
    omega)
  rw [h.at_] at hq'
  injection hq' with hq'
  subst hq'
  have hC : ∀ b, B1 b → (B b ∨ w0.heap.size ≤ b) := h.sub
  have hI := (h.ix.ext hw).wide hC
  have hI2 := hI.put h.ne hfl ⟨1, key, v⟩ K (hK.mono fun b hb => .inr hb)
  have hI3 := (hI2.setSize h.ne ((key, v) :: E).length ((E.length : Int) + 1) (by rw [List.length_cons]; omega)).lt
  have hgm : m = goneN (T.set f ⟨1, key, v⟩) := by omega
  rw [hgm] at hI3
  have hC9 : Chg B w0 ((setPl W9 tb f ⟨1, key, v⟩ K).setCell ⟨x, 1, none⟩ (.int .i64 ((E.length : Int) + 1))) :=
    ((h.chg.trans' (Chg.of hw)).trans (C := fun g => g = tb) (setPl_chg _ _ _ _ _) fun g hg hl => by
      subst hg
      rcases h.sub _ h.ix.tab.inB with h5 | h5
      · exact h5
      · omega).setCell (h.sub x h.ix.inB) _
  have hroom := h.room
  refine ⟨0, false, 0, (key, v) :: E, _, rfl, .inr (.inr (.inr ⟨hk, fun u hu => ?_, hE, rfl, rfl, rfl, rfl⟩)), ⟨⟨tb, _, _, hI3, g1, g2.trans (List.Perm.cons _ h.perm), ?_, by rw [List.length_set]; exact h.len, fun p hp => ?_, h.ne⟩, ⟨by rw [List.length_cons]; omega, hmo⟩, fun b hb => hb.2⟩, fun b hb => hb.1, hC9⟩
  · obtain ⟨i, p, q1, q2, q3, _⟩ := mem_ents.1 (h.perm.mem_iff.2 hu)
    exact h.no i p q1 q2 q3
  · rw [List.length_set, List.length_cons]; omega
  · rcases List.mem_or_eq_of_mem_set hp with hp | rfl
    · exact h.keys p hp
    · exact hk
end Go.Proofs.Ytahdiiaadjdmcaa

namespace Go.Proofs.Ytahdiiaadjdmcaa
open Go.RowKit

theorem gone_pos {T : List Pl} {f : Nat} {q : Pl} (h : T[f]? = some q) (h2 : q.st = 2) : 1 ≤ goneN T :=
  List.countP_pos_iff.2 ⟨q, List.mem_of_getElem? h, by simpa using h2⟩
set_option maxHeartbeats 2000000 in
set_option maxRecDepth 100000 in
theorem put_new {w : World} {B : Nat → Prop} {x most probes : Nat} {E : List (List UInt8 × Int)} (h : HIx w B x most probes E) (hp : probes ≤ 4611686018427387904) (key : List UInt8) (v : Int) (A : Option Addr) (n c : Nat) (hk : KeyAt w A n key) (ha : Aside B A) (hl : n ≤ 4096) (hin : ∀ u, (key, u) ∉ E) :
    Calls Try.prog 83 #[.pointer (some ⟨x, 0, none⟩), .slice A n c, .int .i64 v] w (PutPost w B x most probes E key v) := by
  obtain ⟨tb, T, Ks, hI, hG, hE, h1, h2, h3, hne⟩ := h.at_
  have hkl := hk.len
  have HKA := hide (fun (w' : World) (hc : Chg B w w') => hc.key hk ha)
  have hC0 : Chg B w (w.setCell ⟨x, 3, none⟩ (.int .i64 ((probes : Int) + 1))) := (Chg.refl _ _).setCell (.inl hI.inB) _
  have HF := hide (find_any key A n c _ B x tb most _ _ _ T Ks (hI.probe hne) (HKA.out _ hC0) hG.st (by omega))
  have HI := hide (hI.probe hne)
  have a3 : w.cell? ⟨x, 3, none⟩ = some (.int .i64 probes) := hI.blk.cell 3
  have f3 : w.frozen? ⟨x, 3, none⟩ = false := hI.blk.frozen 3
  have HC := hide hC0
  have hm := h.most
  have HO := hide h.old
  obtain ⟨f, hf, hfree, hno⟩ : ∃ f, findP T key = (none, some f) ∧ FreeAt T key f ∧ ∀ (i : Nat) (p : Pl), T[i]? = some p → p.st = 1 → p.key ≠ key := by
    rcases find_spec hG key with ⟨i, p, _, hpi, hp1, hpk⟩ | h9
    · exact absurd (hE.mem_iff.1 (mem_ents.2 ⟨i, p, hpi, hp1, hpk, rfl⟩)) (hin _)
    · exact h9
  rw [hf] at HF
  have HW := hide (And.intro hG (And.intro hE (And.intro h1 (And.intro h2 (And.intro h3 hne)))))
  have HFR := hide (And.intro hfree hno)
  have HIN := hide hin
  have HXB := hide hI.inB
  have hl2 : ¬ (4096 : Int) < (n : Int) := by omega
  have hgl : goneN T ≤ T.length := by have := hG.room; omega
  have hTl : T.length ≤ 4194400 := by omega
  have hEl := hE.length_eq
  have HEL := hide hEl
  have hkey : key.length ≤ 4096 := by omega
  clear h hk hI hE hf hfree hno hG h1 h2 h3 ha hne hin hC0 hEl hkl
  have hne2 : ∀ a b : Nat, a ≠ b → ¬ ((a : Int) = (b : Int)) := fun a b h => by omega
  by_cases hfull : E.length = most
  · have HFU := hide hfull
    have hfu : (E.length : Int) = (most : Int) := by omega
    have HFE := hide hfu
    clear hfull hfu
    go_enter Try.func83, Try.ntmps83
    go_wp2_with fail
    refine HF.out.mono ?_
    rintro e w1 ⟨rfl, x1⟩
    have X1 := hide x1
    have HI1 := hide (HI.out.ext x1)
    have a0 : w1.cell? ⟨x, 0, none⟩ = some (.int .i64 most) := HI1.out.blk.cell 0
    have a1 : w1.cell? ⟨x, 1, none⟩ = some (.int .i64 E.length) := HI1.out.blk.cell 1
    clear x1 a3 f3
    simp only [frV]
    go_wp2_with fail
    have a0 := cell_ext a0
    have a1 := cell_ext a1
    have hfu := HFE.out
    refine wp_region_ext 9 (by kernel_rfl) (by kernel_rfl) (by kernel_rfl) ?_
    iterate 9
      refine wpE_k (by kernel_rfl) (by kernel_rfl) ?_
      apply Exists.intro
      refine ⟨fun w1 hw1 => ?_, fun K hK => ?_⟩
      · go_simp; first | done | rfl
      go_simp; refine hK _ _ ?_; clear hK K
    refine wpE_nil ⟨rfl, by kernel_rfl, fun wq hwq => ?_⟩
    simp only [EndQ]
    refine wpList_nil ?_
    have HI2 := hide (HI1.out.ext hwq)
    have XQ := hide (X1.out.trans hwq)
    clear a0 a1 hwq
    go_wp2_with fail
    go_ret3
    have hC := HC.out.trans' (Chg.of XQ.out)
    exact ⟨0, false, 52, E, B, rfl, .inr (.inr (.inl ⟨hkey, HIN.out, HFU.out, rfl, rfl, rfl, rfl⟩)), ⟨⟨tb, T, Ks, HI2.out, HW.out.1, HW.out.2.1, HW.out.2.2.1, HW.out.2.2.2.1, HW.out.2.2.2.2.1, HW.out.2.2.2.2.2⟩, hm, fun b hb => Nat.lt_of_lt_of_le (HO.out b hb) hC.size⟩, fun _ hb => .inl hb, hC⟩
  · have hlt : E.length < most := by omega
    have HLT := hide hlt
    have hfu : ¬ ((E.length : Int) = (most : Int)) := by omega
    have e1 : IntKind.i64.wrap ((E.length : Int) + (goneN T : Int)) = (E.length : Int) + (goneN T : Int) := IntWalk.i64_in _ (by omega)
    have e2 : IntKind.i64.wrap ((E.length : Int) + (goneN T : Int) + 1) = (E.length : Int) + (goneN T : Int) + 1 := IntWalk.i64_in _ (by omega)
    have e3 : IntKind.i64.wrap (((E.length : Int) + (goneN T : Int) + 1) * 4) = ((E.length : Int) + (goneN T : Int) + 1) * 4 := IntWalk.i64_in _ (by omega)
    have e4 : IntKind.i64.wrap ((T.length : Int) * 3) = (T.length : Int) * 3 := IntWalk.i64_in _ (by omega)
    by_cases hc : (T.length : Int) * 3 < ((E.length : Int) + (goneN T : Int) + 1) * 4
    · clear hne2
      go_enter Try.func83, Try.ntmps83
      go_wp2_with fail
      refine HF.out.mono ?_
      rintro e w1 ⟨rfl, x1⟩
      have X1 := hide x1
      have HI1 := hide (HI.out.ext x1)
      have a0 : w1.cell? ⟨x, 0, none⟩ = some (.int .i64 most) := HI1.out.blk.cell 0
      have a1 : w1.cell? ⟨x, 1, none⟩ = some (.int .i64 E.length) := HI1.out.blk.cell 1
      clear x1 a3 f3
      simp only [frV]
      go_wp2_with fail
      have a0 := cell_ext a0
      have a1 := cell_ext a1
      refine wp_region_ext 9 (by kernel_rfl) (by kernel_rfl) (by kernel_rfl) ?_
      iterate 9
        refine wpE_k (by kernel_rfl) (by kernel_rfl) ?_
        apply Exists.intro
        refine ⟨fun w1 hw1 => ?_, fun K hK => ?_⟩
        · go_simp; first | done | rfl
        go_simp; refine hK _ _ ?_; clear hK K
      refine wpE_nil ⟨rfl, by kernel_rfl, fun wq hwq => ?_⟩
      simp only [EndQ]
      refine wpList_nil ?_
      have HI2 := hide (HI1.out.ext hwq)
      have XQ := hide (X1.out.trans hwq)
      clear a0 a1 hwq
      have a1 : wq.cell? ⟨x, 1, none⟩ = some (.int .i64 E.length) := HI2.out.blk.cell 1
      have a2 : wq.cell? ⟨x, 2, none⟩ = some (.int .i64 (goneN T)) := HI2.out.blk.cell 2
      have a4 : wq.cell? ⟨x, 4, none⟩ = some (.slice (some ⟨tb, 0, none⟩) T.length T.length) := HI2.out.blk.cell 4
      go_wp2_with fail
      have a1 := cell_ext a1
      have a2 := cell_ext a2
      have a4 := cell_ext a4
      rename World => W2
      refine wp_region_ext 18 (by kernel_rfl) (by kernel_rfl) (by kernel_rfl) ?_
      iterate 18
        refine wpE_k (by kernel_rfl) (by kernel_rfl) ?_
        apply Exists.intro
        refine ⟨fun w1 hw1 => ?_, fun K hK => ?_⟩
        · go_simp; first | done | rfl
        go_simp; refine hK _ _ ?_; clear hK K
      refine wpE_nil ⟨rfl, by kernel_rfl, fun wq hwq => ?_⟩
      simp only [EndQ]
      refine wpList_nil ?_
      have HI3 := hide (HI2.out.ext hwq)
      have XQ3 := hide (XQ.out.trans hwq)
      clear a1 a2 a4 hwq
      have HGR := hide (grow_any HI3.out HW.out.1 HEL.out (by omega) (by have := HW.out.2.2.1; omega) HW.out.2.2.2.2.1 HW.out.2.2.2.2.2)
      clear e1 e2 e3 e4
      go_wp2_with fail
      refine HGR.out.mono ?_
      rintro e w4 ⟨rfl, T', Ks', hA⟩
      have hperm : List.Perm (ents T') E := by
        have := hA.perm
        rw [List.take_length] at this
        exact this.trans HW.out.2.1
      have hg0 : goneN T' = 0 := hA.gone
      have hN := hA.len
      have hC4 : Chg B w w4 := (HC.out.trans' (Chg.of XQ3.out)).trans hA.chg fun g hg _ => hg ▸ HXB.out
      obtain ⟨f', hf', hfree', hno'⟩ : ∃ f, findP T' key = (none, some f) ∧ FreeAt T' key f ∧ ∀ (i : Nat) (p : Pl), T'[i]? = some p → p.st = 1 → p.key ≠ key := by
        rcases find_spec hA.good key with ⟨i, p, _, hpi, hp1, hpk⟩ | h9
        · exact absurd (hperm.mem_iff.1 (mem_ents.2 ⟨i, p, hpi, hp1, hpk, rfl⟩)) (HIN.out _)
        · exact h9
      have HF2 := hide (find_any key A n c w4 _ x _ _ _ _ _ T' Ks' hA.ix (HKA.out _ hC4) hA.good.st (by omega))
      rw [hf'] at HF2
      obtain ⟨q, hq, hq1⟩ := hfree'.2
      have hT0 : 0 < T.length := HW.out.1.pos
      have hinv := HW.out.2.2.1
      have hinv2 := HW.out.2.2.2.1
      have hroom : 4 * (E.length + goneN T' + 1) ≤ 3 * T'.length ∧ T'.length ≤ 4 * most + 8 := by
        rw [hg0, hN]
        split <;> omega
      have HRD0 := hide (show Ready w w4 B (fun b => B b ∨ b = wq.heap.size) x wq.heap.size most probes 0 T' Ks' E key f' q from ⟨hA.ix, hA.good, hperm, hq, hfree', hno', hroom.1, hroom.2, hA.keys, by have := HI3.out.blk.lt; omega, fun b hb => hb.imp id fun h => by subst h; exact (HC.out.trans' (Chg.of XQ3.out)).size, hC4⟩)
      clear hA hperm hN hC4 hf' hfree' hno' hinv hinv2 hroom hT0
      go_wp2_with fail
      refine HF2.out.mono ?_
      rintro e w5 ⟨rfl, x5⟩
      have HRD := hide (HRD0.out.ext x5)
      clear x5
      simp only [frV]
      have hfl : f' < T'.length := (List.getElem?_eq_some_iff.1 hq).1
      obtain ⟨A7, n7, c7, d0, d1, d2, _, hKs7⟩ := HRD.out.ix.tab.at_ hq
      have a4 : w5.cell? ⟨x, 4, none⟩ = some (.slice (some ⟨wq.heap.size, 0, none⟩) T'.length T'.length) := HRD.out.ix.blk.cell 4
      have hq2 := HRD.out.good.st q (List.mem_of_getElem? hq)
      have HQ := hide hq
      obtain ⟨qs, qk, qn⟩ := q
      dsimp only at d0 d1 d2 hq1 hq2
      clear hq hKs7
      obtain rfl | rfl : qs = 0 ∨ qs = 2 := by omega
      · have d0 : w5.cell? ⟨wq.heap.size, f' * 3, none⟩ = some (.int .u8 0) := d0
        go_upto_region 15 with fail
        clear d0 d1 d2 a4
        have HR8 := HRD
        have hm8 : 0 + (if (0 : Nat) = 2 then 1 else 0) = goneN T' := by rw [hg0]; rfl
        have a4 : w5.cell? ⟨x, 4, none⟩ = some (.slice (some ⟨wq.heap.size, 0, none⟩) T'.length T'.length) := HR8.out.ix.blk.cell 4
        have a4 := cell_ext a4
        have HCL := hide (fun w9 (hw9 : Ext w5 w9) => clone_key key A n c w9 (HKA.out w9 (HR8.out.chg.trans' (Chg.of hw9))) (by omega))
        refine wp_region_ext 10 (by kernel_rfl) (by kernel_rfl) (by kernel_rfl) ?_
        iterate 6
          refine wpE_k (by kernel_rfl) (by kernel_rfl) ?_
          apply Exists.intro
          refine ⟨fun w1 hw1 => ?_, fun K hK => ?_⟩
          · go_simp; first | done | rfl
          go_simp; refine hK _ _ ?_; clear hK K
        refine wpE_p [] (fun u w' => OwnKey w' (fun b => w.heap.size ≤ b) u key) (fun u w1 w2 _ h2 h => h.ext h2) rfl (by kernel_rfl) (fun w9 hw9 => ?_) ?_
        · clear a4
          simp only [LookQ]
          go_simp
          refine ⟨Ext.refl _, (HCL.out w9 hw9).mono fun e w' h => ?_⟩
          obtain ⟨K, rfl, h2, h3⟩ := h
          exact ⟨K, rfl, h2, h3.mono fun b hb => Nat.le_trans (HR8.out.chg.trans' (Chg.of hw9)).size hb.1⟩
        iterate 1
          refine wpE_k (by kernel_rfl) (by kernel_rfl) ?_
          apply Exists.intro
          refine ⟨fun w1 hw1 => ?_, fun K hK => ?_⟩
          · go_simp; first | done | rfl
          go_simp; refine hK _ _ ?_; clear hK K
        refine wpE_p [103] (fun u w' => ∃ K, u = .agg #[.int .u8 1, K, .int .i64 v] ∧ OwnKey w' (fun b => w.heap.size ≤ b) K key) (fun u w1 w2 _ h2 h => h.imp fun K hK => ⟨hK.1, hK.2.ext h2⟩) rfl (by kernel_rfl) (fun w9 hw9 => ?_) ?_
        · clear a4
          simp only [LookQ]
          intro u hu
          obtain ⟨A9, n9, c9, rfl, hK1, hK2⟩ := hu _ rfl
          clear hu
          go_simp
          exact ⟨Ext.refl _, A9, n9, c9, rfl, hK1, hK2⟩
        iterate 1
          refine wpE_k (by kernel_rfl) (by kernel_rfl) ?_
          apply Exists.intro
          refine ⟨fun w1 hw1 => ?_, fun K hK => ?_⟩
          · go_simp; first | done | rfl
          go_simp; refine hK _ _ ?_; clear hK K
        refine wpE_nil ⟨rfl, by kernel_rfl, fun w9 hw9 => ?_⟩
        simp only [EndQ]
        rintro _ ⟨K, rfl, A9, n9, c9, rfl, hK1, hK2⟩ K0 _
        have hK : OwnKey w9 (fun b => w.heap.size ≤ b) (.slice A9 n9 c9) key := ⟨A9, n9, c9, rfl, hK1, hK2⟩
        clear hK1 hK2
        simp only [List.drop]
        have HR9 := hide (HR8.out.ext hw9)
        have HW9 := hide hw9
        have HK9 := hide hK
        obtain ⟨_, _, _, d0, d1, d2, _⟩ := HR9.out.ix.tab.at_ HQ.out
        have g0 : w9.frozen? ⟨wq.heap.size, f' * 3, none⟩ = false := HR9.out.ix.tab.blk.frozen _
        have g1 : w9.frozen? ⟨wq.heap.size, f' * 3 + 1, none⟩ = false := HR9.out.ix.tab.blk.frozen _
        have g2 : w9.frozen? ⟨wq.heap.size, f' * 3 + 2, none⟩ = false := HR9.out.ix.tab.blk.frozen _
        clear a4 hw9 hK
        go_upto_region 16 with fail
        have HI10 := hide (show IxAt (((w9.setCell ⟨wq.heap.size, f' * 3, none⟩ (.int .u8 1)).setCell ⟨wq.heap.size, f' * 3 + 1, none⟩ (.slice A9 n9 c9)).setCell ⟨wq.heap.size, f' * 3 + 2, none⟩ (.int .i64 v)) _ x wq.heap.size most E.length _ (probes + 1) _ _ from (HR9.out.ix.wide HR9.out.sub).put HR9.out.ne hfl ⟨1, key, v⟩ _ (HK9.out.mono fun b hb => .inr hb))
        have HFIN := hide (show PutPost w B x most probes E key v _ ((((w9.setCell ⟨wq.heap.size, f' * 3, none⟩ (.int .u8 1)).setCell ⟨wq.heap.size, f' * 3 + 1, none⟩ (.slice A9 n9 c9)).setCell ⟨wq.heap.size, f' * 3 + 2, none⟩ (.int .i64 v)).setCell ⟨x, 1, none⟩ (.int .i64 ((E.length : Int) + 1))) from HR8.out.fin hm8 HW9.out v HK9.out hkey HLT.out hm.2)
        generalize ((w9.setCell ⟨wq.heap.size, f' * 3, none⟩ (.int .u8 1)).setCell ⟨wq.heap.size, f' * 3 + 1, none⟩ (.slice A9 n9 c9)).setCell ⟨wq.heap.size, f' * 3 + 2, none⟩ (.int .i64 v) = W10 at *
        clear d0 d1 d2 g0 g1 g2
        have a1 : W10.cell? ⟨x, 1, none⟩ = some (.int .i64 E.length) := HI10.out.blk.cell 1
        have f1 : W10.frozen? ⟨x, 1, none⟩ = false := HI10.out.blk.frozen 1
        go_wp2_with fail
        go_ret3
        exact HFIN.out
      · exact absurd (gone_pos HQ.out rfl) (by omega)
    · have HRD0 := hide (fun W (hW : IxAt W B x tb most E.length (goneN T) (probes + 1) T Ks) (hc2 : Chg B w W) q (hq : T[f]? = some q) => (⟨hW, HW.out.1, HW.out.2.1, hq, HFR.out.1, HFR.out.2, by omega, HW.out.2.2.2.1, HW.out.2.2.2.2.1, HW.out.2.2.2.2.2, fun b hb => .inl hb, hc2⟩ : Ready w W B B x tb most probes (goneN T) T Ks E key f q))
      go_enter Try.func83, Try.ntmps83
      go_wp2_with fail
      refine HF.out.mono ?_
      rintro e w1 ⟨rfl, x1⟩
      have X1 := hide x1
      have HI1 := hide (HI.out.ext x1)
      have a0 : w1.cell? ⟨x, 0, none⟩ = some (.int .i64 most) := HI1.out.blk.cell 0
      have a1 : w1.cell? ⟨x, 1, none⟩ = some (.int .i64 E.length) := HI1.out.blk.cell 1
      clear x1 a3 f3
      simp only [frV]
      go_wp2_with fail
      have a0 := cell_ext a0
      have a1 := cell_ext a1
      refine wp_region_ext 9 (by kernel_rfl) (by kernel_rfl) (by kernel_rfl) ?_
      iterate 9
        refine wpE_k (by kernel_rfl) (by kernel_rfl) ?_
        apply Exists.intro
        refine ⟨fun w1 hw1 => ?_, fun K hK => ?_⟩
        · go_simp; first | done | rfl
        go_simp; refine hK _ _ ?_; clear hK K
      refine wpE_nil ⟨rfl, by kernel_rfl, fun wq hwq => ?_⟩
      simp only [EndQ]
      refine wpList_nil ?_
      have HI2 := hide (HI1.out.ext hwq)
      have XQ := hide (X1.out.trans hwq)
      clear a0 a1 hwq
      have a1 : wq.cell? ⟨x, 1, none⟩ = some (.int .i64 E.length) := HI2.out.blk.cell 1
      have a2 : wq.cell? ⟨x, 2, none⟩ = some (.int .i64 (goneN T)) := HI2.out.blk.cell 2
      have a4 : wq.cell? ⟨x, 4, none⟩ = some (.slice (some ⟨tb, 0, none⟩) T.length T.length) := HI2.out.blk.cell 4
      go_wp2_with fail
      have a1 := cell_ext a1
      have a2 := cell_ext a2
      have a4 := cell_ext a4
      rename World => W2
      refine wp_region_ext 18 (by kernel_rfl) (by kernel_rfl) (by kernel_rfl) ?_
      iterate 18
        refine wpE_k (by kernel_rfl) (by kernel_rfl) ?_
        apply Exists.intro
        refine ⟨fun w1 hw1 => ?_, fun K hK => ?_⟩
        · go_simp; first | done | rfl
        go_simp; refine hK _ _ ?_; clear hK K
      refine wpE_nil ⟨rfl, by kernel_rfl, fun wq hwq => ?_⟩
      simp only [EndQ]
      refine wpList_nil ?_
      have HI3 := hide (HI2.out.ext hwq)
      have XQ3 := hide (XQ.out.trans hwq)
      clear a1 a2 a4 hwq
      obtain ⟨q, hq, hq1⟩ := HFR.out.1.2
      have HRD := hide (HRD0.out wq HI3.out (HC.out.trans' (Chg.of XQ3.out)) q hq)
      have hfl : f < T.length := (List.getElem?_eq_some_iff.1 hq).1
      obtain ⟨A7, n7, c7, d0, d1, d2, _, hKs7⟩ := HRD.out.ix.tab.at_ hq
      have a4 : wq.cell? ⟨x, 4, none⟩ = some (.slice (some ⟨tb, 0, none⟩) T.length T.length) := HRD.out.ix.blk.cell 4
      have hq2 := HRD.out.good.st q (List.mem_of_getElem? hq)
      have HQ := hide hq
      obtain ⟨qs, qk, qn⟩ := q
      dsimp only at d0 d1 d2 hq1 hq2
      clear hq hKs7
      obtain rfl | rfl : qs = 0 ∨ qs = 2 := by omega
      · have d0 : wq.cell? ⟨tb, f * 3, none⟩ = some (.int .u8 0) := d0
        go_upto_region 15 with fail
        clear d0 d1 d2 a4
        have HR8 := HRD
        have hm8 : goneN T + (if (0 : Nat) = 2 then 1 else 0) = goneN T := by simp
        have a4 : wq.cell? ⟨x, 4, none⟩ = some (.slice (some ⟨tb, 0, none⟩) T.length T.length) := HR8.out.ix.blk.cell 4
        have a4 := cell_ext a4
        have HCL := hide (fun w9 (hw9 : Ext wq w9) => clone_key key A n c w9 (HKA.out w9 (HR8.out.chg.trans' (Chg.of hw9))) (by omega))
        refine wp_region_ext 10 (by kernel_rfl) (by kernel_rfl) (by kernel_rfl) ?_
        iterate 6
          refine wpE_k (by kernel_rfl) (by kernel_rfl) ?_
          apply Exists.intro
          refine ⟨fun w1 hw1 => ?_, fun K hK => ?_⟩
          · go_simp; first | done | rfl
          go_simp; refine hK _ _ ?_; clear hK K
        refine wpE_p [] (fun u w' => OwnKey w' (fun b => w.heap.size ≤ b) u key) (fun u w1 w2 _ h2 h => h.ext h2) rfl (by kernel_rfl) (fun w9 hw9 => ?_) ?_
        · clear a4
          simp only [LookQ]
          go_simp
          refine ⟨Ext.refl _, (HCL.out w9 hw9).mono fun e w' h => ?_⟩
          obtain ⟨K, rfl, h2, h3⟩ := h
          exact ⟨K, rfl, h2, h3.mono fun b hb => Nat.le_trans (HR8.out.chg.trans' (Chg.of hw9)).size hb.1⟩
        iterate 1
          refine wpE_k (by kernel_rfl) (by kernel_rfl) ?_
          apply Exists.intro
          refine ⟨fun w1 hw1 => ?_, fun K hK => ?_⟩
          · go_simp; first | done | rfl
          go_simp; refine hK _ _ ?_; clear hK K
        refine wpE_p [103] (fun u w' => ∃ K, u = .agg #[.int .u8 1, K, .int .i64 v] ∧ OwnKey w' (fun b => w.heap.size ≤ b) K key) (fun u w1 w2 _ h2 h => h.imp fun K hK => ⟨hK.1, hK.2.ext h2⟩) rfl (by kernel_rfl) (fun w9 hw9 => ?_) ?_
        · clear a4
          simp only [LookQ]
          intro u hu
          obtain ⟨A9, n9, c9, rfl, hK1, hK2⟩ := hu _ rfl
          clear hu
          go_simp
          exact ⟨Ext.refl _, A9, n9, c9, rfl, hK1, hK2⟩
        iterate 1
          refine wpE_k (by kernel_rfl) (by kernel_rfl) ?_
          apply Exists.intro
          refine ⟨fun w1 hw1 => ?_, fun K hK => ?_⟩
          · go_simp; first | done | rfl
          go_simp; refine hK _ _ ?_; clear hK K
        refine wpE_nil ⟨rfl, by kernel_rfl, fun w9 hw9 => ?_⟩
        simp only [EndQ]
        rintro _ ⟨K, rfl, A9, n9, c9, rfl, hK1, hK2⟩ K0 _
        have hK : OwnKey w9 (fun b => w.heap.size ≤ b) (.slice A9 n9 c9) key := ⟨A9, n9, c9, rfl, hK1, hK2⟩
        clear hK1 hK2
        simp only [List.drop]
        have HR9 := hide (HR8.out.ext hw9)
        have HW9 := hide hw9
        have HK9 := hide hK
        obtain ⟨_, _, _, d0, d1, d2, _⟩ := HR9.out.ix.tab.at_ HQ.out
        have g0 : w9.frozen? ⟨tb, f * 3, none⟩ = false := HR9.out.ix.tab.blk.frozen _
        have g1 : w9.frozen? ⟨tb, f * 3 + 1, none⟩ = false := HR9.out.ix.tab.blk.frozen _
        have g2 : w9.frozen? ⟨tb, f * 3 + 2, none⟩ = false := HR9.out.ix.tab.blk.frozen _
        clear a4 hw9 hK
        go_upto_region 16 with fail
        have HI10 := hide (show IxAt (((w9.setCell ⟨tb, f * 3, none⟩ (.int .u8 1)).setCell ⟨tb, f * 3 + 1, none⟩ (.slice A9 n9 c9)).setCell ⟨tb, f * 3 + 2, none⟩ (.int .i64 v)) _ x tb most E.length _ (probes + 1) _ _ from (HR9.out.ix.wide HR9.out.sub).put HR9.out.ne hfl ⟨1, key, v⟩ _ (HK9.out.mono fun b hb => .inr hb))
        have HFIN := hide (show PutPost w B x most probes E key v _ ((((w9.setCell ⟨tb, f * 3, none⟩ (.int .u8 1)).setCell ⟨tb, f * 3 + 1, none⟩ (.slice A9 n9 c9)).setCell ⟨tb, f * 3 + 2, none⟩ (.int .i64 v)).setCell ⟨x, 1, none⟩ (.int .i64 ((E.length : Int) + 1))) from HR8.out.fin hm8 HW9.out v HK9.out hkey HLT.out hm.2)
        generalize ((w9.setCell ⟨tb, f * 3, none⟩ (.int .u8 1)).setCell ⟨tb, f * 3 + 1, none⟩ (.slice A9 n9 c9)).setCell ⟨tb, f * 3 + 2, none⟩ (.int .i64 v) = W10 at *
        clear d0 d1 d2 g0 g1 g2
        have a1 : W10.cell? ⟨x, 1, none⟩ = some (.int .i64 E.length) := HI10.out.blk.cell 1
        have f1 : W10.frozen? ⟨x, 1, none⟩ = false := HI10.out.blk.frozen 1
        go_wp2_with fail
        go_ret3
        exact HFIN.out
      · have d0 : wq.cell? ⟨tb, f * 3, none⟩ = some (.int .u8 2) := d0
        have a2 : wq.cell? ⟨x, 2, none⟩ = some (.int .i64 (goneN T)) := HRD.out.ix.blk.cell 2
        have f2 : wq.frozen? ⟨x, 2, none⟩ = false := HRD.out.ix.blk.frozen 2
        have hg1 := gone_pos HQ.out rfl
        have hg3 := hide hg1
        go_upto_region 15 with fail
        have HR8 := hide (HRD.out.marks (goneN T - 1) ((goneN T : Int) - 1) (by omega))
        generalize wq.setCell ⟨x, 2, none⟩ (.int .i64 ((goneN T : Int) - 1)) = W8 at *
        clear d0 d1 d2 a4 a2 f2
        have hm8 : (goneN T - 1) + (if (2 : Nat) = 2 then 1 else 0) = goneN T := by simp; omega
        have a4 : W8.cell? ⟨x, 4, none⟩ = some (.slice (some ⟨tb, 0, none⟩) T.length T.length) := HR8.out.ix.blk.cell 4
        have a4 := cell_ext a4
        have HCL := hide (fun w9 (hw9 : Ext W8 w9) => clone_key key A n c w9 (HKA.out w9 (HR8.out.chg.trans' (Chg.of hw9))) (by omega))
        refine wp_region_ext 10 (by kernel_rfl) (by kernel_rfl) (by kernel_rfl) ?_
        iterate 6
          refine wpE_k (by kernel_rfl) (by kernel_rfl) ?_
          apply Exists.intro
          refine ⟨fun w1 hw1 => ?_, fun K hK => ?_⟩
          · go_simp; first | done | rfl
          go_simp; refine hK _ _ ?_; clear hK K
        refine wpE_p [] (fun u w' => OwnKey w' (fun b => w.heap.size ≤ b) u key) (fun u w1 w2 _ h2 h => h.ext h2) rfl (by kernel_rfl) (fun w9 hw9 => ?_) ?_
        · clear a4
          simp only [LookQ]
          go_simp
          refine ⟨Ext.refl _, (HCL.out w9 hw9).mono fun e w' h => ?_⟩
          obtain ⟨K, rfl, h2, h3⟩ := h
          exact ⟨K, rfl, h2, h3.mono fun b hb => Nat.le_trans (HR8.out.chg.trans' (Chg.of hw9)).size hb.1⟩
        iterate 1
          refine wpE_k (by kernel_rfl) (by kernel_rfl) ?_
          apply Exists.intro
          refine ⟨fun w1 hw1 => ?_, fun K hK => ?_⟩
          · go_simp; first | done | rfl
          go_simp; refine hK _ _ ?_; clear hK K
        refine wpE_p [103] (fun u w' => ∃ K, u = .agg #[.int .u8 1, K, .int .i64 v] ∧ OwnKey w' (fun b => w.heap.size ≤ b) K key) (fun u w1 w2 _ h2 h => h.imp fun K hK => ⟨hK.1, hK.2.ext h2⟩) rfl (by kernel_rfl) (fun w9 hw9 => ?_) ?_
        · clear a4
          simp only [LookQ]
          intro u hu
          obtain ⟨A9, n9, c9, rfl, hK1, hK2⟩ := hu _ rfl
          clear hu
          go_simp
          exact ⟨Ext.refl _, A9, n9, c9, rfl, hK1, hK2⟩
        iterate 1
          refine wpE_k (by kernel_rfl) (by kernel_rfl) ?_
          apply Exists.intro
          refine ⟨fun w1 hw1 => ?_, fun K hK => ?_⟩
          · go_simp; first | done | rfl
          go_simp; refine hK _ _ ?_; clear hK K
        refine wpE_nil ⟨rfl, by kernel_rfl, fun w9 hw9 => ?_⟩
        simp only [EndQ]
        rintro _ ⟨K, rfl, A9, n9, c9, rfl, hK1, hK2⟩ K0 _
        have hK : OwnKey w9 (fun b => w.heap.size ≤ b) (.slice A9 n9 c9) key := ⟨A9, n9, c9, rfl, hK1, hK2⟩
        clear hK1 hK2
        simp only [List.drop]
        have HR9 := hide (HR8.out.ext hw9)
        have HW9 := hide hw9
        have HK9 := hide hK
        obtain ⟨_, _, _, d0, d1, d2, _⟩ := HR9.out.ix.tab.at_ HQ.out
        have g0 : w9.frozen? ⟨tb, f * 3, none⟩ = false := HR9.out.ix.tab.blk.frozen _
        have g1 : w9.frozen? ⟨tb, f * 3 + 1, none⟩ = false := HR9.out.ix.tab.blk.frozen _
        have g2 : w9.frozen? ⟨tb, f * 3 + 2, none⟩ = false := HR9.out.ix.tab.blk.frozen _
        clear a4 hw9 hK
        go_upto_region 16 with fail
        have HI10 := hide (show IxAt (((w9.setCell ⟨tb, f * 3, none⟩ (.int .u8 1)).setCell ⟨tb, f * 3 + 1, none⟩ (.slice A9 n9 c9)).setCell ⟨tb, f * 3 + 2, none⟩ (.int .i64 v)) _ x tb most E.length _ (probes + 1) _ _ from (HR9.out.ix.wide HR9.out.sub).put HR9.out.ne hfl ⟨1, key, v⟩ _ (HK9.out.mono fun b hb => .inr hb))
        have HFIN := hide (show PutPost w B x most probes E key v _ ((((w9.setCell ⟨tb, f * 3, none⟩ (.int .u8 1)).setCell ⟨tb, f * 3 + 1, none⟩ (.slice A9 n9 c9)).setCell ⟨tb, f * 3 + 2, none⟩ (.int .i64 v)).setCell ⟨x, 1, none⟩ (.int .i64 ((E.length : Int) + 1))) from HR8.out.fin hm8 HW9.out v HK9.out hkey HLT.out hm.2)
        generalize ((w9.setCell ⟨tb, f * 3, none⟩ (.int .u8 1)).setCell ⟨tb, f * 3 + 1, none⟩ (.slice A9 n9 c9)).setCell ⟨tb, f * 3 + 2, none⟩ (.int .i64 v) = W10 at *
        clear d0 d1 d2 g0 g1 g2
        have a1 : W10.cell? ⟨x, 1, none⟩ = some (.int .i64 E.length) := HI10.out.blk.cell 1
        have f1 : W10.frozen? ⟨x, 1, none⟩ = false := HI10.out.blk.frozen 1
        go_wp2_with fail
        go_ret3
        exact HFIN.out

theorem put_any {w : World} {B : Nat → Prop} {x most probes : Nat} {E : List (List UInt8 × Int)} (h : HIx w B x most probes E) (hp : probes ≤ 4611686018427387904) (key : List UInt8) (v : Int) (A : Option Addr) (n c : Nat) (hk : KeyAt w A n key) (ha : Aside B A) (hn : n ≤ 4611686018427387904) :
    Calls Try.prog 83 #[.pointer (some ⟨x, 0, none⟩), .slice A n c, .int .i64 v] w (PutPost w B x most probes E key v) := by
  by_cases hl : 4096 < n
  · exact put_long h hp key v A n c hk.len hl hn
  · by_cases hin : ∃ u, (key, u) ∈ E
    · exact put_there h hp key v A n c hk ha (by omega) hin
    · exact put_new h hp key v A n c hk ha (by omega) (fun u hu => hin ⟨u, hu⟩)
end Go.Proofs.Ytahdiiaadjdmcaa
