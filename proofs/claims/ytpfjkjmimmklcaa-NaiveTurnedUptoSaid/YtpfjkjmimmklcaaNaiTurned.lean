/-
  NaiveTurned: the walk.
-/
import Derived.Test.YtpfjkjmimmklcaaNaiTurnM
import Derived.Test.YtpfjkjmimmklcaaNaiAll
import Derived.Test.YtpfjkjmimmklcaaNaiA
import Derived.Test.YtpfjkjmimmklcaaNaiK
import Derived.Test.YtpfjkjmimmklcaaCloseU
import Derived.Test.YtpfjkjmimmklcaaLayG
namespace Go.Proofs.Ytpfjkjmimmklcaa
open Go.RowKit

/-- a list of one row of the call's own -/
def SgIs (base : Nat) (r : List V) (u : Value) (w : World) : Prop := ∃ g A c, u = .slice (some ⟨g, 0, none⟩) 1 1 ∧ Blk w g 35 #[.slice A r.length c] ∧ w.ownsRow base 58 3 (.slice A r.length c) r.length (cellsR r)
theorem SgIs.ext {b : Nat} {r : List V} {u : Value} {w w' : World} (h : SgIs b r u w) (hw : Ext w w') : SgIs b r u w' := by
  obtain ⟨g, A, c, h1, h2, h3⟩ := h
  exact ⟨g, A, c, h1, h2.ext hw, mine_ext h3 hw⟩
/-- a plain form in memory of its own, as a value; its atoms; one of them -/
def PlIs (q : Qy) (u : Value) (w : World) : Prop := ∃ L w0, u = .agg #[.string q.name, .slice L.A L.n L.c, .slice L.B L.m L.d] ∧ Copied w0 w L q
theorem Copied.go {w0 w w' : World} {L : QLoc} {q : Qy} (h : Copied w0 w L q) (hw : Ext w w') : Copied w0 w' L q := h.ext hw
theorem PlIs.ext {q : Qy} {u : Value} {w w' : World} (h : PlIs q u w) (hw : Ext w w') : PlIs q u w' := by
  obtain ⟨L, w0, h1, h2⟩ := h
  exact ⟨L, w0, h1, h2.ext hw⟩
def PaIs (q : Qy) (u : Value) (w : World) : Prop := ∃ L w0, u = .slice L.B L.m L.d ∧ Copied w0 w L q
theorem PaIs.ext {q : Qy} {u : Value} {w w' : World} (h : PaIs q u w) (hw : Ext w w') : PaIs q u w' := by
  obtain ⟨L, w0, h1, h2⟩ := h
  exact ⟨L, w0, h1, h2.ext hw⟩
def AmIs (a : Atm) (u : Value) (w : World) : Prop := ∃ gt, u = .agg #[.string a.rel, .slice (some ⟨gt, 0, none⟩) a.terms.length a.terms.length] ∧ Blk w gt 60 (tmC a.terms).toArray
theorem AmIs.ext {a : Atm} {u : Value} {w w' : World} (h : AmIs a u w) (hw : Ext w w') : AmIs a u w' := by
  obtain ⟨g, h1, h2⟩ := h
  exact ⟨g, h1, h2.ext hw⟩
def PpIs (a : Atm) (u : Value) (w : World) : Prop := ∃ b j gt, u = .pointer (some ⟨b, j, none⟩) ∧ w.cell? ⟨b, j, none⟩ = some (.string a.rel) ∧ w.cell? ⟨b, j + 1, none⟩ = some (.slice (some ⟨gt, 0, none⟩) a.terms.length a.terms.length) ∧ Blk w gt 60 (tmC a.terms).toArray
theorem PpIs.ext {a : Atm} {u : Value} {w w' : World} (h : PpIs a u w) (hw : Ext w w') : PpIs a u w' := by
  obtain ⟨b, j, gt, h1, h2, h3, h4⟩ := h
  exact ⟨b, j, gt, h1, hw.cell h2, hw.cell h3, h4.ext hw⟩
theorem Copied.atom {w0 w : World} {L : QLoc} {q : Qy} (h : Copied w0 w L q) {i : Nat} {a : Atm} (ha : q.atoms[i]? = some a) : ∃ b gt, L.B = some ⟨b, 0, none⟩ ∧ i < L.m ∧ w.cell? ⟨b, i * 2, none⟩ = some (.string a.rel) ∧ w.cell? ⟨b, i * 2 + 1, none⟩ = some (.slice (some ⟨gt, 0, none⟩) a.terms.length a.terms.length) ∧ Blk w gt 60 (tmC a.terms).toArray := by
  obtain ⟨ps, cells, k1, k2, k3, k4, k5, k6⟩ := h.atoms
  have hp : (ps.map (·.1))[i]? = some a := by rw [k1]; exact ha
  rw [List.getElem?_map, Option.map_eq_some_iff] at hp
  obtain ⟨p, hp, rfl⟩ := hp
  have hi : i < L.m := by have := (List.getElem?_eq_some_iff.1 hp).1; omega
  obtain ⟨cs, e1, e2, ⟨e3, e4⟩, e5⟩ := k2.get hp
  obtain ⟨b, hB, hb, hlt, hcell, -⟩ := own_two k4 hi
  subst e3
  exact ⟨b, p.2, hB, hi, (hcell 0 (by omega)).trans (e5 0 (by omega)), (hcell 1 (by omega)).trans (e5 1 (by omega)), e4⟩

theorem u64_nat (k : Nat) (h : k < 18446744073709551616) : IntKind.u64.wrap (k : Int) = (k : Int) := by
  have := wrap_nat k h
  injection this
theorem u64_nonneg (x : Int) : 0 ≤ IntKind.u64.wrap x := by
  show 0 ≤ (if (IntKind.u64.signed && decide (x % 2 ^ IntKind.u64.bits ≥ 2 ^ (IntKind.u64.bits - 1))) = true then x % 2 ^ IntKind.u64.bits - 2 ^ IntKind.u64.bits else x % 2 ^ IntKind.u64.bits)
  rw [if_neg (by simp [IntKind.signed])]
  exact Int.emod_nonneg _ (by simp [IntKind.bits])
theorem u64_mod (x : Int) (n : Nat) : (IntKind.u64.wrap x).tmod (n : Int) = (((IntKind.u64.wrap x).toNat % n : Nat) : Int) := by
  have h := u64_nonneg x
  rw [Int.tmod_eq_emod_of_nonneg h]
  obtain ⟨k, hk⟩ := Int.eq_ofNat_of_zero_le h
  rw [hk]
  simp
theorem TurnM.blk {W w : World} {g9 : Nat} {nm : ByteArray} {hd : List ByteArray} {B : Option Addr} {m d i : Nat} {cur : List Atm} (h : TurnM W w g9 nm hd B m d cur) (hi : i < m) : ∃ b, B = some ⟨b, 0, none⟩ := by
  obtain ⟨ps, cells, h3, h4, h5, h6⟩ := h.atoms
  obtain ⟨b, hB, -⟩ := own_two h6 hi
  exact ⟨b, hB⟩
theorem plain_out (q : Qy) (L : QLoc) (w : World) (hq : QAt w L q) (hM : smallM 1048576 q) :
    Calls Try.prog 18 #[qval q.name L] w fun e w' => ∃ A n c B m d, e = .returned (.agg #[.string q.name, .slice A n c, .slice B m d]) ∧ Copied w w' ⟨A, n, c, B, m, d⟩ (plainQ q) ∧ Ext w w' :=
  (ref_plain q L w hq hM).mono fun _ _ ⟨⟨A, n, c, B, m, d⟩, h1, h2, h3⟩ => ⟨A, n, c, B, m, d, h1, h2, h3⟩

theorem turnRows_len (rs : List (List V)) : (turnRows rs).length ≤ rs.length + 1 := by
  unfold turnRows
  rw [List.length_append, List.length_reverse]
  split
  · simp
  · simp
theorem turnD_sum (data : List Tbl) (h : ∀ t ∈ data, t.rows.length + 1 ≤ 1048576) : ((turnD data).flatMap Tbl.rows).length ≤ data.length * 1048576 := by
  have h1 : ∀ l : List Tbl, (∀ t ∈ l, t.rows.length + 1 ≤ 1048576) → ((l.map turnTab).flatMap Tbl.rows).length ≤ l.length * 1048576 := by
    intro l
    induction l with
    | nil => simp
    | cons t l ih =>
      intro h
      have h2 := h t (by simp)
      have h3 := ih fun x hx => h x (by simp [hx])
      have h4 := turnRows_len t.rows
      rw [List.map_cons, List.flatMap_cons, List.length_append, List.length_cons, Nat.add_mul]
      have h5 : (turnTab t).rows.length ≤ t.rows.length + 1 := h4
      omega
  have := h1 data.reverse fun t ht => h t (List.mem_reverse.1 ht)
  rwa [List.length_reverse] at this
theorem turnD_row {data : List Tbl} {n : Nat} (h : ∀ t ∈ data, ∀ r ∈ t.rows, r.length ≤ n) : ∀ t ∈ turnD data, ∀ r ∈ t.rows, r.length ≤ n := fun t ht r hr => by
  obtain ⟨u, hu, rfl⟩ := List.mem_map.1 (show t ∈ data.reverse.map turnTab from ht)
  exact h u (List.mem_reverse.1 hu) r (mem_turnRows.1 hr)
set_option maxRecDepth 100000 in
theorem turn_answers {q : Qy} {cur : List Atm} {KK gh : Nat} {x : Nat} {w : World} {data : List Tbl} {B4 A7 : Option Addr} {d4 c7 : Nat} (hM : smallM 1048576 q) (hl : cur.length = q.atoms.length) (hc : ∀ j, j < q.atoms.length → cur[j]? = turnA (plainQ q).atoms KK j)
    (hq : QAt w ⟨some ⟨gh, 0, none⟩, (plainQ q).head.length, (plainQ q).head.length, B4, q.atoms.length, d4⟩ ⟨q.name, (plainQ q).head, cur⟩) (hb : LAt RB 2 w A7 data.length (turnD data)) (hm : data.length ≤ 1048576) (hsum : ((turnD data).flatMap Tbl.rows).length ≤ 1099511627776)
    (hrow : ∀ t ∈ turnD data, ∀ r ∈ t.rows, r.length ≤ 1048576) (hx : x % q.atoms.length = KK) :
    ∃ rb : List (List V) × Int, Calls Try.prog 13 #[.agg #[.string q.name, .slice (some ⟨gh, 0, none⟩) (plainQ q).head.length (plainQ q).head.length, .slice B4 q.atoms.length d4], .slice A7 data.length c7, .int .i64 1073741824] w
      (fun e w' => ∃ A c, e = .returned (.tuple #[.slice A rb.1.length c, .int .i64 rb.2]) ∧ LAt RRow 1 w' A rb.1.length rb.1 ∧ Ext w w') ∧ ((answersP q data 1073741824).2 = 0 → rb.2 = 0 → (answersP q data 1073741824).1 = rb.1) := by
  have hpl : (plainQ q).atoms.length = q.atoms.length := by simp [plainQ]
  have hmem : ∀ a ∈ cur, a ∈ (plainQ q).atoms := fun a ha => by
    obtain ⟨j, hj, rfl⟩ := List.getElem_of_mem ha
    have h1 := hc j (by omega)
    rw [List.getElem?_eq_getElem hj] at h1
    unfold turnA at h1
    exact List.mem_of_getElem? h1.symm
  have hS := turn_small (plain_small_any hM) (hl.trans hpl.symm) hmem
  have h := answers_lat ⟨q.name, (plainQ q).head, cur⟩ _ (turnD data) A7 data.length c7 1073741824 w hq hS hb hm hsum hrow
  have hL : (answersP q data 1073741824).2 = 0 → (answersP ⟨q.name, (plainQ q).head, cur⟩ (turnD data) 1073741824).2 = 0 → (answersP q data 1073741824).1 = (answersP ⟨q.name, (plainQ q).head, cur⟩ (turnD data) 1073741824).1 := fun h1 h2 => by
    have hs := (answersP_ok h1).2.some
    refine turned_law (k := KK) ⟨rfl, rfl, hl.trans hpl.symm, fun i hi => hc i (by have : i < cur.length := hi; omega)⟩ ?_ h1 h2
    rw [hpl, ← hx]
    exact Nat.mod_lt _ hs
  generalize answersP ⟨q.name, (plainQ q).head, cur⟩ (turnD data) 1073741824 = rb at h hL
  simp only [qval] at h
  exact ⟨rb, h, hL⟩

set_option maxHeartbeats 8000000 in
set_option maxRecDepth 100000 in
theorem law_turned (q : Qy) (L : QLoc) (data : List Tbl) (B : Option Addr) (m c : Nat) (by_ : Int) (w : World) (hq : QAt w L q) (hM : smallM 1048576 q)
    (hb : LAt RB 2 w B m data) (hd : ∀ t ∈ data, smallTb 1048576 t) (hby : -9223372036854775808 ≤ by_ ∧ by_ ≤ 9223372036854775807) (hm : m ≤ 1048576) (hu : ∀ t ∈ data, t.rows.length + 1 ≤ 1048576) :
    Calls Try.prog 4 #[qval q.name L, .slice B m c, .int .i64 by_] w fun e w' => e = .returned (.bool true) ∧ Ext w w' := by
  obtain rfl : m = data.length := hb.len
  have hs1 : (data.flatMap Tbl.rows).length ≤ 1099511627776 := Nat.le_trans (sum_rows data hd) (by have : data.length * 1048576 ≤ 1048576 * 1048576 := Nat.mul_le_mul_right _ (by omega); omega)
  have HCP := hide (fun w1 (h1 : Ext w w1) => copy_qt q L w1 (hq.ext h1) hM)
  have HCT := hide (fun w1 (h1 : Ext w w1) => copy_tabs data B data.length c w1 (hb.ext RB.stab h1) (by omega) (fun t ht => ⟨Nat.le_trans (hd t ht).2.1 (by omega), fun r hr => Nat.le_trans ((hd t ht).2.2 r hr).1 (by omega)⟩))
  have HA1 := hide (fun L1 A1 n1 c1 w1 (h1 : QAt w1 L1 q) (h2 : LAt RB 2 w1 A1 n1 data) => answers_lat q L1 data A1 n1 c1 1073741824 w1 h1 hM h2 (by have := h2.len; omega) hs1 (fun t ht r hr => ((hd t ht).2.2 r hr).1))
  have HPL := hide (fun w1 (h1 : Ext w w1) => plain_out q L w1 (hq.ext h1) hM)
  have HE := hide (Ext.alloc w (.cells #[.string q.name, .slice L.A L.n L.c, .slice L.B L.m L.d] 25))
  have HB0 := hide (Blk.new w 25 #[.string q.name, .slice L.A L.n L.c, .slice L.B L.m L.d])
  have HBT := hide hb
  have HDS := hide (show ∀ t ∈ data, t.rows.length ≤ 1048576 ∧ ∀ r ∈ t.rows, r.length ≤ 1048576 from fun t ht => ⟨(hd t ht).2.1, fun r hr => ((hd t ht).2.2 r hr).1⟩)
  have HML := hide (show data.length ≤ 1048576 from hm)
  have HLM := hide (show L.m = q.atoms.length ∧ q.atoms.length ≤ 1048576 from ⟨hq.atoms.len, hM.atomsL⟩)
  have HRW := hide (fun x (hx : x ∈ (answersP q data 1073741824).1) => (show x.length ≤ 1048576 by have := answersP_row hx; have := hM.headL; omega))
  have hs2 : ((turnD data).flatMap Tbl.rows).length ≤ 1099511627776 := Nat.le_trans (turnD_sum data hu) (by have : data.length * 1048576 ≤ 1048576 * 1048576 := Nat.mul_le_mul_right _ (by omega); omega)
  have hs3 := turnD_row (n := 1048576) (fun t ht r hr => ((hd t ht).2.2 r hr).1)
  have HAN := hide (fun (cur : List Atm) (KK gh x : Nat) (w1 : World) (B4 A7 : Option Addr) (d4 c7 : Nat) (h1 : cur.length = q.atoms.length) (h2 : ∀ j, j < q.atoms.length → cur[j]? = turnA (plainQ q).atoms KK j)
    (h3 : QAt w1 ⟨some ⟨gh, 0, none⟩, (plainQ q).head.length, (plainQ q).head.length, B4, q.atoms.length, d4⟩ ⟨q.name, (plainQ q).head, cur⟩) (h4 : LAt RB 2 w1 A7 data.length (turnD data)) (h5 : x % q.atoms.length = KK) => turn_answers (c7 := c7) hM h1 h2 h3 h4 (by omega) hs2 hs3 h5)
  have hle1 := answersP_len q data 1073741824
  generalize hW2 : w.alloc (.cells #[.string q.name, .slice L.A L.n L.c, .slice L.B L.m L.d] 25) = W2 at *
  have HW2 := hide hW2; clear hW2 hq hM hb hd hm hs1 hs2 hs3 hu
  obtain ⟨A, n, cA, AB, k, d⟩ := L
  simp only [qval] at *
  obtain rfl : k = q.atoms.length := HLM.out.1
  have a0 : W2.cell? ⟨w.heap.size, 0, none⟩ = some (.string q.name) := HB0.out.cell 0
  have a1 : W2.cell? ⟨w.heap.size, 1, none⟩ = some (.slice A n cA) := HB0.out.cell 1
  have a2 : W2.cell? ⟨w.heap.size, 2, none⟩ = some (.slice AB q.atoms.length d) := HB0.out.cell 2
  generalize hra : answersP q data 1073741824 = ra at *
  have HRA := hide hra; clear hra
  obtain ⟨a, ea⟩ := ra
  go_enter Try.func4, Try.ntmps4
  go_wp2_with (first
    | (rw [HW2.out]; (with_reducible refine (HCP.out _ HE.out).mono ?_); rintro e w1 ⟨A1, n1, c1, B1, m1, d1, rfl, q1, x1⟩; have X1 := hide x1; have Q1 := hide q1; clear q1 x1 a0 a1 a2)
    | ((with_reducible refine (HCT.out _ (HE.out.trans X1.out)).mono ?_); rintro e w2 ⟨A2, n2, c2, cs2, rfl, l2, o2, t2, x2⟩; have X2 := hide (X1.out.trans x2); have T2 := hide (tabs_lat l2 o2 t2); have Q2 := hide (Q1.out.ext x2); clear l2 o2 t2 x2)
    | ((with_reducible refine (HA1.out ⟨A1, n1, c1, B1, m1, d1⟩ _ _ _ _ Q2.out T2.out).mono ?_); rintro e w3 ⟨A3, c3, rfl, r3, x3⟩; have X3 := hide (X2.out.trans x3); have R3 := hide r3; clear r3 x3
       have a0 : w3.cell? ⟨w.heap.size, 0, none⟩ = some (.string q.name) := (HB0.out.ext X3.out).cell 0
       have a1 : w3.cell? ⟨w.heap.size, 1, none⟩ = some (.slice A n cA) := (HB0.out.ext X3.out).cell 1
       have a2 : w3.cell? ⟨w.heap.size, 2, none⟩ = some (.slice AB q.atoms.length d) := (HB0.out.ext X3.out).cell 2)
    | ((with_reducible refine (HPL.out _ (HE.out.trans X3.out)).mono ?_); rintro e w4 ⟨A4, n4, c4, B4, m4, d4, rfl, q4, x4⟩; have X4 := hide x4; have Q4 := hide q4; have HB4 := hide (HB0.out.ext (X3.out.trans x4)); clear q4 x4 a0 a1 a2; have a2 : w4.cell? ⟨w.heap.size, 2, none⟩ = some (.slice AB q.atoms.length d) := HB4.out.cell 2; have hlt4 : w.heap.size < w4.heap.size := HB4.out.lt; have hne4 : w.heap.size ≠ w4.heap.size := Nat.ne_of_lt HB4.out.lt))
  obtain rfl : m4 = q.atoms.length := by
    have h := Q4.out.qat.atoms.len
    simpa [plainQ] using h
  have HTM0 := hide (TurnM.start Q4.out X4.out (Ext.alloc w4 (.cells #[.string q.name, .slice A4 n4 c4, .slice B4 q.atoms.length d4] 25)) (Blk.new w4 _ _))
  have HB3 := hide (HB0.out.ext X3.out)
  have HNE := hide (show w.heap.size ≠ w4.heap.size from hne4)
  have XW3 := hide (HE.out.trans X3.out)
  generalize hg9 : w4.heap.size = g9 at *
  generalize hW5 : w4.alloc (.cells #[.string q.name, .slice A4 n4 c4, .slice B4 q.atoms.length d4] 25) = W5 at *
  have HX5 := hide (show Ext w4 W5 from hW5 ▸ Ext.alloc _ _)
  have HG9 := hide (show w3.heap.size ≤ g9 from hg9 ▸ X4.out.size)
  clear hg9 hW5 a2 hlt4 hne4 Q4
  dsimp only at HTM0
  have HPN := hide (show (plainQ q).atoms.length = q.atoms.length by simp [plainQ])
  generalize hKK : (IntKind.u64.wrap by_).toNat % q.atoms.length = KK at *
  have HKK := hide hKK; clear hKK
  go_loopw [11, 34] (fun _ s34 w' => ∃ (i : Nat) (cur : List Atm), i ≤ q.atoms.length ∧ s34 = .int .i64 i ∧ Hid (cur.length = q.atoms.length) ∧ Hid (∀ j, j < i → cur[j]? = turnA (plainQ q).atoms KK j) ∧ Hid (TurnM w3 w' g9 q.name (plainQ q).head B4 q.atoms.length d4 cur)) (fun _ s34 _ => q.atoms.length - (intOf s34).toNat)
  case atStart => exact ⟨0, (plainQ q).atoms, by omega, rfl, HPN.out, fun j hj => by omega, HTM0.out⟩
  case round =>
    obtain ⟨i, cur, hin, rfl, hcl, hct, hT⟩ := hrel
    have hX := hide hT.out.ext
    by_cases h : i < q.atoms.length
    · have hN20 := HLM.out.2
      have a0 := cell_ext (show wr.cell? ⟨w.heap.size, 0, none⟩ = some (.string q.name) from (HB3.out.ext hX.out).cell 0)
      have a1 := cell_ext (show wr.cell? ⟨w.heap.size, 1, none⟩ = some (.slice A n cA) from (HB3.out.ext hX.out).cell 1)
      have a2 := cell_ext (show wr.cell? ⟨w.heap.size, 2, none⟩ = some (.slice AB q.atoms.length d) from (HB3.out.ext hX.out).cell 2)
      obtain ⟨gh, hv9, -⟩ := hT.out.var
      have b2 := cell_ext (show wr.cell? ⟨g9, 2, none⟩ = some (.slice B4 q.atoms.length d4) from hv9.cell 2)
      clear hv9
      go_upto_region 7 with fail
      refine wp_region_ext 22 (by kernel_rfl) (by kernel_rfl) (by kernel_rfl) ?_
      iterate 4
        refine wpE_k (by kernel_rfl) (by kernel_rfl) ?_
        apply Exists.intro
        refine ⟨fun w1 hw1 => ?_, fun K hK => ?_⟩
        · go_simp; first | done | rfl
        go_simp; refine hK _ _ ?_; clear hK K
      refine wpE_p [] (PlIs (plainQ q)) (fun u w1 w2 _ h2 h => PlIs.ext h h2) rfl (by kernel_rfl) (fun w1 hw1 => ?_) ?_
      · simp only [LookQ]
        clear a0 a1 a2 b2
        go_simp
        refine ⟨Ext.refl _, (HPL.out w1 (XW3.out.trans (hX.out.trans hw1))).mono ?_⟩
        rintro e w9 ⟨A5, n5, c5, B5, m5, d5, rfl, h5, x5⟩
        exact ⟨_, rfl, x5, ⟨A5, n5, c5, B5, m5, d5⟩, w1, rfl, h5⟩
      refine wpE_p [41] (PaIs (plainQ q)) (fun u w1 w2 _ h2 h => PaIs.ext h h2) rfl (by kernel_rfl) (fun w1 hw1 => ?_) ?_
      · simp only [LookQ]
        rintro _ hu
        obtain ⟨L5, w0, rfl, h5⟩ := hu _ rfl
        clear hu a0 a1 a2 b2
        go_simp
        exact ⟨Ext.refl _, L5, w0, rfl, h5⟩
      have hkn : KK < q.atoms.length := by rw [← HKK.out]; exact Nat.mod_lt _ (by omega)
      have hne0 : ¬ q.atoms = [] := fun e => by rw [e] at h; simp at h
      have hrn : (i + KK) % q.atoms.length < q.atoms.length := Nat.mod_lt _ (by omega)
      iterate 1
        refine wpE_k (by kernel_rfl) (by kernel_rfl) ?_
        apply Exists.intro
        refine ⟨fun w1 hw1 => ?_, fun K hK => ?_⟩
        · go_simp; first | done | rfl
        go_simp; refine hK _ _ ?_; clear hK K
      refine wpE_k (by kernel_rfl) (by kernel_rfl) ?_
      refine ⟨.int .i64 ((q.atoms.length - 1 : Nat) : Int), fun w1 hw1 => ?_, fun K hK => ?_⟩
      · clear a0 a1 a2 b2
        go_simp
        rw [IntWalk.i64_in _ (by omega)]; omega
      go_simp; refine hK _ _ ?_; clear hK K
      iterate 4
        refine wpE_k (by kernel_rfl) (by kernel_rfl) ?_
        apply Exists.intro
        refine ⟨fun w1 hw1 => ?_, fun K hK => ?_⟩
        · go_simp; first | done | rfl
        go_simp; refine hK _ _ ?_; clear hK K
      refine wpE_k (by kernel_rfl) (by kernel_rfl) ?_
      refine ⟨.int .u64 (q.atoms.length : Int), fun w1 hw1 => ?_, fun K hK => ?_⟩
      · clear a0 a1 a2 b2
        go_simp
        exact u64_nat _ (by omega)
      go_simp; refine hK _ _ ?_; clear hK K
      refine wpE_k (by kernel_rfl) (by kernel_rfl) ?_
      refine ⟨.int .u64 (KK : Int), fun w1 hw1 => ?_, fun K hK => ?_⟩
      · clear a0 a1 a2 b2
        go_simp
        rw [← HKK.out]
        exact u64_mod _ _
      go_simp; refine hK _ _ ?_; clear hK K
      refine wpE_k (by kernel_rfl) (by kernel_rfl) ?_
      refine ⟨.int .i64 (KK : Int), fun w1 hw1 => ?_, fun K hK => ?_⟩
      · clear a0 a1 a2 b2
        go_simp
        exact IntWalk.i64_in _ (by omega)
      go_simp; refine hK _ _ ?_; clear hK K
      refine wpE_k (by kernel_rfl) (by kernel_rfl) ?_
      refine ⟨.int .i64 ((i + KK : Nat) : Int), fun w1 hw1 => ?_, fun K hK => ?_⟩
      · clear a0 a1 a2 b2
        go_simp
        exact IntWalk.i64_in _ (by omega)
      go_simp; refine hK _ _ ?_; clear hK K
      iterate 1
        refine wpE_k (by kernel_rfl) (by kernel_rfl) ?_
        apply Exists.intro
        refine ⟨fun w1 hw1 => ?_, fun K hK => ?_⟩
        · go_simp; first | done | rfl
        go_simp; refine hK _ _ ?_; clear hK K
      refine wpE_k (by kernel_rfl) (by kernel_rfl) ?_
      refine ⟨.int .i64 (((i + KK) % q.atoms.length : Nat) : Int), fun w1 hw1 => ?_, fun K hK => ?_⟩
      · clear a0 a1 a2 b2
        go_simp
        exact Int.tmod_eq_emod_of_nonneg (by omega)
      go_simp; refine hK _ _ ?_; clear hK K
      refine wpE_k (by kernel_rfl) (by kernel_rfl) ?_
      refine ⟨.int .i64 ((q.atoms.length - 1 - (i + KK) % q.atoms.length : Nat) : Int), fun w1 hw1 => ?_, fun K hK => ?_⟩
      · clear a0 a1 a2 b2
        go_simp
        rw [show ((i : Int) + (KK : Int)) % (q.atoms.length : Int) = (((i + KK) % q.atoms.length : Nat) : Int) by simp, IntWalk.i64_in _ (by omega)]; omega
      go_simp; refine hK _ _ ?_; clear hK K
      have hjn : q.atoms.length - 1 - (i + KK) % q.atoms.length < (plainQ q).atoms.length := by rw [HPN.out]; omega
      obtain ⟨am, ham⟩ : ∃ am, (plainQ q).atoms[q.atoms.length - 1 - (i + KK) % q.atoms.length]? = some am := ⟨_, List.getElem?_eq_getElem hjn⟩
      have HTA := hide (show turnA (plainQ q).atoms KK i = some am from by unfold turnA; rw [HPN.out]; exact ham)
      have HAM := hide ham
      clear ham hjn
      generalize q.atoms.length - 1 - (i + KK) % q.atoms.length = jj at *
      obtain ⟨bb, hbb⟩ := hT.out.blk h
      subst hbb
      refine wpE_p [42] (PpIs am) (fun u w1 w2 _ h2 h => PpIs.ext h h2) rfl (by kernel_rfl) (fun w1 hw1 => ?_) ?_
      · simp only [LookQ]
        rintro _ hu
        obtain ⟨⟨A5, n5, c5, B5, m5, d5⟩, w0, rfl, h5⟩ := hu _ rfl
        obtain ⟨b5, gt, hB5, hj5, e0, e1, e2⟩ := h5.atom HAM.out
        simp only at hB5 hj5
        subst hB5
        clear hu a0 a1 a2 b2
        go_simp
        exact ⟨Ext.refl _, b5, jj * 2, gt, rfl, e0, e1, e2⟩
      refine wpE_p [56] (AmIs am) (fun u w1 w2 _ h2 h => AmIs.ext h h2) rfl (by kernel_rfl) (fun w1 hw1 => ?_) ?_
      · simp only [LookQ]
        rintro _ hu
        obtain ⟨b5, j5, gt, rfl, e0, e1, e2⟩ := hu _ rfl
        clear hu a0 a1 a2 b2
        go_simp
        exact ⟨Ext.refl _, gt, rfl, e2⟩
      iterate 1
        refine wpE_k (by kernel_rfl) (by kernel_rfl) ?_
        apply Exists.intro
        refine ⟨fun w1 hw1 => ?_, fun K hK => ?_⟩
        · go_simp; first | done | rfl
        go_simp; refine hK _ _ ?_; clear hK K
      refine wpE_nil ⟨rfl, by kernel_rfl, fun w1 hw1 => ?_⟩
      simp only [EndQ, List.drop]
      rintro _ ⟨gt, rfl, hgt⟩ _ _ _ _ _ _
      clear a0 a1 a2 b2
      obtain ⟨b', hb', ⟨u0, x0⟩, ⟨u1, x1⟩, hfr, hT2⟩ := (hT.out.go hw1).put h hgt
      injection hb' with hb'
      injection hb' with hb'
      subst hb'
      have y0 := hfr (i * 2)
      have y1 := hfr (i * 2 + 1)
      have HT2 := hide hT2
      clear hT2 hfr hw1
      go_wp2_with fail
      go_roundw
      case rel =>
        refine ⟨i + 1, cur.set i am, by omega, by go_num, by rw [Hid, List.length_set]; exact hcl.out, fun j hj => ?_, HT2.out⟩
        rw [List.getElem?_set]
        by_cases hij : i = j
        · subst hij
          rw [if_pos rfl, if_pos (by rw [hcl.out]; exact h), HTA.out]
        · rw [if_neg hij]
          exact hct.out j (by omega)
      case measure => simp [intOf]; omega
    · obtain rfl : i = q.atoms.length := by omega
      have hml := HML.out
      go_wp2_with fail
      have HTF := hide hT.out
      have HCL := hide hcl.out
      have HCTL := hide hct.out
      have HXF := hide hT.out.ext
      clear hT hcl hct
      generalize hwb : wr = wb at *
      clear hwb
      go_loopw [12, 13, 14, 15] (fun s12 s13 _ _ w' => ∃ (r p : Nat) (x : Int) (A7 : Option Addr) (c7 : Nat) (cells : List Value), r + p = data.length ∧ s13 = .int .i64 x ∧ Hid (x = (r : Int) - 1) ∧ s12 = .slice A7 p c7 ∧
        Hid (w'.ownsRow wb.heap.size 43 2 (.slice A7 p c7) p cells) ∧ Hid (Els (RBM wb.heap.size) 2 w' cells ((data.reverse.take p).map turnTab)) ∧ Hid (Ext wb w')) (fun _ s13 _ _ _ => (intOf s13 + 1).toNat)
      case atStart => exact ⟨data.length, 0, (data.length : Int) - 1, none, 0, [], by omega, by go_num, rfl, rfl, World.ownsRow_nil _ _ _ _, by simpa [Hid] using Els.nil, Ext.refl _⟩
      case round =>
        obtain ⟨r, p, x, A7, c7, cells, hrp, rfl, hx, rfl, ho, he, hX⟩ := hrel
        generalize hwo : wr = wo at *
        clear hwo
        cases r with
        | succ r =>
          obtain rfl : x = (r : Int) := by have := hx.out; omega
          clear hx
          obtain ⟨b, off, t, A9, n9, c9, rfl, hxt, hb1, d0, d1, hR⟩ := (HBT.out.ext RB.stab (XW3.out.trans (HXF.out.trans hX.out))).tab_ (show r < data.length by omega)
          have HXT := hide hxt
          have HR9 := hide hR
          have HDT := hide (HDS.out t (List.mem_of_getElem? hxt))
          have hr0 : (0 : Int) ≤ (r : Int) := by omega
          have hn9 : n9 ≤ 1048576 := by have := HDT.out.1; have := hR.len; omega
          have hbne : b ≠ wo.heap.size := Nat.ne_of_lt hb1
          clear hxt hR
          go_wp2_with fail
          have HE6 := hide (Ext.alloc wo (.cells #[.string t.rel, .slice none 0 0] 43))
          have HB6 := hide (Blk.new wo 43 #[.string t.rel, .slice none 0 0])
          generalize hw6 : wo.alloc (.cells #[.string t.rel, .slice none 0 0] 43) = w6 at *
          clear hw6
          have d1' := hide d1
          clear d0 d1
          obtain rfl : n9 = t.rows.length := HR9.out.len
          have HHG := hide (show wo.heap.size ≤ wo.heap.size from Nat.le_refl _)
          go_loopw [15] (fun s15 w' => ∃ (r2 p2 : Nat) (y : Int) (A8 : Option Addr) (c8 : Nat) (cells2 : List Value), r2 + p2 = t.rows.length ∧ s15 = .int .i64 y ∧ Hid (y = (r2 : Int) - 1) ∧ Hid (Blk w' wo.heap.size 43 #[.string t.rel, .slice A8 p2 c8]) ∧
            Hid (w'.ownsRow wo.heap.size 35 1 (.slice A8 p2 c8) p2 cells2) ∧ Hid (Els (RMine wo.heap.size) 1 w' cells2 (t.rows.reverse.take p2)) ∧ Hid (Ext wo w')) (fun s15 _ => (intOf s15 + 1).toNat)
          case atStart => exact ⟨t.rows.length, 0, (t.rows.length : Int) - 1, none, 0, [], by omega, by go_num, rfl, HB6.out, World.ownsRow_nil _ _ _ _, by simpa [Hid] using Els.nil, HE6.out⟩
          case round =>
            obtain ⟨r2, p2, y, A8, c8, cells2, hrp2, rfl, hy, hB8, ho2, he2, hY⟩ := hrel
            cases r2 with
            | succ r2 =>
              obtain rfl : y = (r2 : Int) := by have := hy.out; omega
              clear hy
              have hr20 : (0 : Int) ≤ (r2 : Int) := by omega
              have hr21 : (r2 : Int) < (t.rows.length : Int) := by omega
              have hr22 : r2 < t.rows.length := by omega
              have hr11 : (r : Int) < (data.length : Int) := by omega
              have hr12 : r < data.length := by omega
              go_upto_region 17 with fail
              obtain ⟨b3, off3, xr, A10, n10, c10, hA9, hxr, hb3, e0, hR10⟩ := (HR9.out.ext RRow.stab hY.out).row_ (show r2 < t.rows.length by omega)
              subst hA9
              have HXR := hide hxr
              have HN10 := hide hR10.len
              have HCX := hide (fun w1 h1 => copy_any xr A10 n10 c10 w1 (hR10.ext h1) (by have := (HDT.out.2 xr (List.mem_of_getElem? hxr)); have := hR10.len; omega))
              have d1 := cell_ext (hY.out.cell d1'.out)
              have e0 := cell_ext e0
              have f1 := cell_ext (show _ = some (Value.slice A8 p2 c8) from hB8.out.cell 1)
              clear hxr hb3 hR10
              refine wp_region_ext 12 (by kernel_rfl) (by kernel_rfl) (by kernel_rfl) ?_
              iterate 10
                refine wpE_k (by kernel_rfl) (by kernel_rfl) ?_
                apply Exists.intro
                refine ⟨fun w1 hw1 => ?_, fun K hK => ?_⟩
                · go_simp; first | done | rfl
                go_simp; refine hK _ _ ?_; clear hK K
              refine wpE_p [] (HvIs wo.heap.size xr) (fun u w1 w2 _ h2 h => HvIs.ext h h2) rfl (by kernel_rfl) (fun w1 hw1 => ?_) ?_
              · simp only [LookQ]
                clear d1 e0 f1
                go_simp
                refine ⟨Ext.refl _, (HCX.out w1 hw1).mono ?_⟩
                rintro e w9 ⟨A5, c5, rfl, o5, x5⟩
                obtain rfl : n10 = xr.length := HN10.out
                exact ⟨_, rfl, x5, A5, c5, rfl, mine_base o5 (Nat.le_trans hY.out.size hw1.size)⟩
              refine wpE_p [94] (SgIs wo.heap.size xr) (fun u w1 w2 _ h2 h => SgIs.ext h h2) rfl (by kernel_rfl) (fun w1 hw1 => ?_) ?_
              · simp only [LookQ]
                rintro _ hu
                obtain ⟨A5, c5, rfl, h5⟩ := hu _ rfl
                clear hu d1 e0 f1
                go_simp
                exact ⟨Ext.alloc _ _, _, A5, c5, rfl, Blk.new _ _ _, mine_ext h5 (Ext.alloc _ _)⟩
              refine wpE_nil ⟨rfl, by kernel_rfl, fun w1 hw1 => ?_⟩
              simp only [EndQ, List.drop]
              rintro _ ⟨gs, A5, c5, rfl, hgs, h5⟩ _ _
              clear d1 e0 f1
              have HGS := hide hgs
              have HO5 := hide h5
              have HO2 := hide (mine_ext ho2.out hw1)
              have HE2 := hide (he2.out.ext (RMine.stab _) hw1)
              have HB1 := hide (hB8.out.ext hw1)
              have HY1 := hide (hY.out.trans hw1)
              obtain ⟨i0, hi0, hz0, hz1, hz2⟩ := info_parts infoRw
              clear hgs h5 hw1 ho2 he2 hB8
              go_wp2_with (at_builtin; refine wpList_append_sl rfl (.tmp 85) (.tmp 95) _ rfl 35 i0 _ 1 24 Try.underlying27 hi0 hz0 hz1 hz2 rfl (by omega) wo HY1.out _ p2 cells2 rfl HO2.out _ 1 1 [.slice A5 xr.length c5] rfl (HGS.out.sl (n := 1) (size := 1) rfl) (by intro v hv; obtain rfl := List.mem_singleton.1 hv; rfl) (by unfold maxLen; omega) (by omega) ?_; intro A12 c12 w12 own12 E12 G12 L12; have HB12 := hide (HB1.out.grown G12.out (own_ne_blk HO2.out HB1.out (by decide))); have z1 : w12.cell? ⟨wo.heap.size, 1, none⟩ = some (.slice A8 p2 c8) := HB12.out.cell 1; have z2 := HB12.out.frozen 1)
              go_roundw
              case rel =>
                have hrv : t.rows.reverse[p2]? = some xr := by
                  rw [List.getElem?_reverse (by omega), show t.rows.length - 1 - p2 = r2 by omega]
                  exact HXR.out
                refine ⟨r2, p2 + 1, (r2 : Int) - 1, A12, c12, cells2 ++ [Value.slice A5 xr.length c5], by omega, by go_num, rfl, ?_, mine_set own12.out HB12.out (by decide) 1 (.slice A12 (p2 + 1) c12), ?_, E12.out.setCell (p := ⟨wo.heap.size, 1, none⟩) (Nat.le_refl _) (.slice A12 (p2 + 1) c12)⟩
                · have h9 := HB12.out.set_ 1 (.slice A12 (p2 + 1) c12)
                  simpa [Hid] using h9
                · rw [Hid, take_next _ _ _ hrv]
                  refine ((HE2.out.mono fun _ _ h => (h.other HO2.out (by decide) G12.out).set_ HB12.out (by decide) _ _)).snoc rfl (fun v hv => by obtain rfl := List.mem_singleton.1 hv; rfl) ⟨A5, _, c5, rfl, ?_⟩
                  exact mine_set (mine_other HO5.out HO2.out (by decide) G12.out) HB12.out (by decide) _ _
              case measure => simp [intOf]
            | zero =>
              obtain rfl : y = -1 := by have := hy.out; omega
              obtain rfl : p2 = t.rows.length := by omega
              clear hy
              rw [List.take_of_length_le (by simp)] at he2
              have f1 : wr.cell? ⟨wo.heap.size, 1, none⟩ = some (.slice A8 t.rows.length c8) := hB8.out.cell 1
              have f0 : wr.cell? ⟨wo.heap.size, 0, none⟩ = some (.string t.rel) := hB8.out.cell 0
              obtain ⟨k0, hk0, hy0, hy1, hy2⟩ := info_parts infoTb
              have hpl : p ≤ 1048576 := by omega
              by_cases hz : t.rows.length = 0
              · have hz0 : ¬ (0 : Int) < (t.rows.length : Int) := by omega
                have HZ := hide hz; clear hz
                go_wp2_with (at_builtin; refine wpList_append_sl rfl (.tmp 112) (.tmp 114) _ rfl 43 k0 _ 2 40 Try.underlying26 hk0 hy0 hy1 hy2 rfl (by omega) wb (hX.out.trans (hY.out.trans (Ext.alloc _ _))) _ p cells rfl (mine_ext ho.out (hY.out.trans (Ext.alloc _ _))) _ 1 1 [.string t.rel, .slice A8 t.rows.length c8] rfl ((Blk.new _ _ _).sl (n := 1) (size := 2) rfl) (by intro v hv; simp only [List.mem_cons, List.not_mem_nil, or_false] at hv; rcases hv with rfl | rfl <;> rfl) (by unfold maxLen; omega) (by omega) ?_; intro A12 c12 w12 own12 E12 G12 L12)
                go_roundw
                case rel =>
                  have hdv : data.reverse[p]? = some t := by
                    rw [List.getElem?_reverse (by omega), show data.length - 1 - p = r by omega]
                    exact HXT.out
                  have hal : Ext wo (wr.alloc (.cells #[.string t.rel, .slice A8 t.rows.length c8] 43)) := hY.out.trans (Ext.alloc _ _)
                  have hnil : t.rows = [] := List.eq_nil_of_length_eq_zero HZ.out
                  have htt : (turnTab t).rows = t.rows.reverse := by simp [turnTab, turnRows, hnil]
                  refine ⟨r, p + 1, (r : Int) - 1, A12, c12, cells ++ [Value.string t.rel, Value.slice A8 t.rows.length c8], by omega, by go_num, rfl, rfl, own12.out, ?_, E12.out⟩
                  rw [Hid, take_next _ _ _ hdv, List.map_append, List.map_singleton]
                  refine ((he.out.ext (RBM.stab _) hal).mono fun _ _ h => h.other (mine_ext ho.out hal) (by decide) (by decide) G12.out).snoc rfl (by intro v hv; simp only [List.mem_cons, List.not_mem_nil, or_false] at hv; rcases hv with rfl | rfl <;> rfl) ⟨A8, _, c8, cells2, rfl, by rw [htt, List.length_reverse], ?_, ?_⟩
                  · exact mine_base (mine_other (mine_ext ho2.out (Ext.alloc _ _)) (mine_ext ho.out hal) (by decide) G12.out) hX.out.size
                  · rw [htt]
                    exact (he2.ext (RMine.stab _) (Ext.alloc _ _)).mono fun _ _ h => (h.other (mine_ext ho.out hal) (by decide) G12.out).base hX.out.size
                case measure => simp [intOf]
              · have hz1 : (0 : Int) < (t.rows.length : Int) := by omega
                have hr90 : 0 < t.rows.length := by omega
                go_upto_region 19 with fail
                obtain ⟨b3, off3, xr, A10, n10, c10, hA9, hxr, hb3, e0, hR10⟩ := (mine_lat (by rw [List.length_reverse]) ho2.out he2).row_ hr90
                subst hA9
                have HXR := hide hxr
                have HN10 := hide hR10.len
                have HCX := hide (fun w1 h1 => copy_any xr A10 n10 c10 w1 (hR10.ext h1) (by have := (HDT.out.2 xr (List.mem_reverse.1 (List.mem_of_getElem? hxr))); have := hR10.len; omega))
                rw [Nat.add_zero] at e0
                have e0 := cell_ext e0
                have f1 := cell_ext f1
                clear hxr hb3 hR10 f0
                refine wp_region_ext 8 (by kernel_rfl) (by kernel_rfl) (by kernel_rfl) ?_
                iterate 6
                  refine wpE_k (by kernel_rfl) (by kernel_rfl) ?_
                  apply Exists.intro
                  refine ⟨fun w1 hw1 => ?_, fun K hK => ?_⟩
                  · go_simp; first | done | rfl
                  go_simp; refine hK _ _ ?_; clear hK K
                refine wpE_p [] (HvIs wo.heap.size xr) (fun u w1 w2 _ h2 h => HvIs.ext h h2) rfl (by kernel_rfl) (fun w1 hw1 => ?_) ?_
                · simp only [LookQ]
                  clear e0 f1
                  go_simp
                  refine ⟨Ext.refl _, (HCX.out w1 hw1).mono ?_⟩
                  rintro e w9 ⟨A5, c5, rfl, o5, x5⟩
                  obtain rfl : n10 = xr.length := HN10.out
                  exact ⟨_, rfl, x5, A5, c5, rfl, mine_base o5 (Nat.le_trans hY.out.size hw1.size)⟩
                refine wpE_p [108] (SgIs wo.heap.size xr) (fun u w1 w2 _ h2 h => SgIs.ext h h2) rfl (by kernel_rfl) (fun w1 hw1 => ?_) ?_
                · simp only [LookQ]
                  rintro _ hu
                  obtain ⟨A5, c5, rfl, h5⟩ := hu _ rfl
                  clear hu e0 f1
                  go_simp
                  exact ⟨Ext.alloc _ _, _, A5, c5, rfl, Blk.new _ _ _, mine_ext h5 (Ext.alloc _ _)⟩
                refine wpE_nil ⟨rfl, by kernel_rfl, fun w1 hw1 => ?_⟩
                simp only [EndQ, List.drop]
                rintro _ ⟨gs, A5, c5, rfl, hgs, h5⟩ _ _
                clear e0 f1
                have HGS := hide hgs
                have HO5 := hide h5
                have HO2 := hide (mine_ext ho2.out hw1)
                have HE2 := hide (he2.ext (RMine.stab _) hw1)
                have HB1 := hide (hB8.out.ext hw1)
                have HY1 := hide (hY.out.trans hw1)
                obtain ⟨i0, hi0, hz0, hz3, hz2⟩ := info_parts infoRw
                clear hgs h5 hw1 ho2 he2 hB8
                have hrl := (HDT.out.1)
                go_upto_region 20 with (at_builtin; refine wpList_append_sl rfl (.tmp 103) (.tmp 109) _ rfl 35 i0 _ 1 24 Try.underlying27 hi0 hz0 hz3 hz2 rfl (by omega) wo HY1.out _ t.rows.length cells2 rfl HO2.out _ 1 1 [.slice A5 xr.length c5] rfl (HGS.out.sl (n := 1) (size := 1) rfl) (by intro v hv; obtain rfl := List.mem_singleton.1 hv; rfl) (by unfold maxLen; omega) (by omega) ?_; intro A12 c12 w12 own12 E12 G12 L12; have HB12 := hide (HB1.out.grown G12.out (own_ne_blk HO2.out HB1.out (by decide))); have z1 : w12.cell? ⟨wo.heap.size, 1, none⟩ = some (.slice (some ⟨b3, off3, none⟩) t.rows.length c8) := HB12.out.cell 1; have z2 := HB12.out.frozen 1)
                have hBn := HB12.out.set_ 1 (.slice A12 (t.rows.length + 1) c12)
                have hOn := mine_set own12.out HB12.out (by decide) 1 (.slice A12 (t.rows.length + 1) c12)
                have hEn : Els (RMine wo.heap.size) 1 (w12.setCell ⟨wo.heap.size, 1, none⟩ (.slice A12 (t.rows.length + 1) c12)) (cells2 ++ [Value.slice A5 xr.length c5]) (t.rows.reverse ++ [xr]) := by
                  refine ((HE2.out.mono fun _ _ h => (h.other HO2.out (by decide) G12.out).set_ HB12.out (by decide) _ _)).snoc rfl (fun v hv => by obtain rfl := List.mem_singleton.1 hv; rfl) ⟨A5, _, c5, rfl, ?_⟩
                  exact mine_set (mine_other HO5.out HO2.out (by decide) G12.out) HB12.out (by decide) _ _
                have hXn := E12.out.setCell (p := ⟨wo.heap.size, 1, none⟩) (Nat.le_refl _) (.slice A12 (t.rows.length + 1) c12)
                have hBn : Blk (w12.setCell ⟨wo.heap.size, 1, none⟩ (.slice A12 (t.rows.length + 1) c12)) wo.heap.size 43 #[.string t.rel, .slice A12 (t.rows.length + 1) c12] := by simpa using hBn
                generalize w12.setCell ⟨wo.heap.size, 1, none⟩ (.slice A12 (t.rows.length + 1) c12) = w13 at *
                have HBN := hide hBn; have HON := hide hOn; have HEN := hide hEn; have HXN := hide hXn
                have g0 : w13.cell? ⟨wo.heap.size, 0, none⟩ = some (.string t.rel) := HBN.out.cell 0
                have g1 : w13.cell? ⟨wo.heap.size, 1, none⟩ = some (.slice A12 (t.rows.length + 1) c12) := HBN.out.cell 1
                clear hBn hOn hEn hXn own12 E12 G12 L12 HB12 z1 z2
                go_wp2_with (at_builtin; refine wpList_append_sl rfl (.tmp 112) (.tmp 114) _ rfl 43 k0 _ 2 40 Try.underlying26 hk0 hy0 hy1 hy2 rfl (by omega) wb (hX.out.trans (HXN.out.trans (Ext.alloc _ _))) _ p cells rfl (mine_ext ho.out (HXN.out.trans (Ext.alloc _ _))) _ 1 1 [.string t.rel, .slice A12 (t.rows.length + 1) c12] rfl ((Blk.new _ _ _).sl (n := 1) (size := 2) rfl) (by intro v hv; simp only [List.mem_cons, List.not_mem_nil, or_false] at hv; rcases hv with rfl | rfl <;> rfl) (by unfold maxLen; omega) (by omega) ?_; intro A14 c14 w14 own14 E14 G14 L14)
                go_roundw
                case rel =>
                  have hdv : data.reverse[p]? = some t := by
                    rw [List.getElem?_reverse (by omega), show data.length - 1 - p = r by omega]
                    exact HXT.out
                  have hal : Ext wo (w13.alloc (.cells #[.string t.rel, .slice A12 (t.rows.length + 1) c12] 43)) := HXN.out.trans (Ext.alloc _ _)
                  have htt : (turnTab t).rows = t.rows.reverse ++ [xr] := by
                    show turnRows t.rows = _
                    have hx := HXR.out
                    unfold turnRows
                    cases hr : t.rows.reverse with
                    | nil => rw [hr] at hx; cases hx
                    | cons y l =>
                      rw [hr] at hx
                      simp only [List.getElem?_cons_zero, Option.some.injEq] at hx
                      rw [hx]
                  refine ⟨r, p + 1, (r : Int) - 1, A14, c14, cells ++ [Value.string t.rel, Value.slice A12 (t.rows.length + 1) c12], by omega, by go_num, rfl, rfl, own14.out, ?_, E14.out⟩
                  rw [Hid, take_next _ _ _ hdv, List.map_append, List.map_singleton]
                  refine ((he.out.ext (RBM.stab _) hal).mono fun _ _ h => h.other (mine_ext ho.out hal) (by decide) (by decide) G14.out).snoc rfl (by intro v hv; simp only [List.mem_cons, List.not_mem_nil, or_false] at hv; rcases hv with rfl | rfl <;> rfl) ⟨A12, _, c12, cells2 ++ [Value.slice A5 xr.length c5], rfl, by rw [htt, List.length_append, List.length_reverse]; rfl, ?_, ?_⟩
                  · exact mine_base (mine_other (mine_ext HON.out (Ext.alloc _ _)) (mine_ext ho.out hal) (by decide) G14.out) hX.out.size
                  · rw [htt]
                    exact (HEN.out.ext (RMine.stab _) (Ext.alloc _ _)).mono fun _ _ h => (h.other (mine_ext ho.out hal) (by decide) G14.out).base hX.out.size
                case measure => simp [intOf]
        | zero =>
          obtain rfl : x = -1 := by have := hx.out; omega
          obtain rfl : p = data.length := by omega
          clear hx
          obtain ⟨gh, hb9, hq9⟩ := (HTF.out.go hX.out).qat
          have q0 : wo.cell? ⟨g9, 0, none⟩ = some (.string q.name) := hb9.cell 0
          have q1 : wo.cell? ⟨g9, 1, none⟩ = some (.slice (some ⟨gh, 0, none⟩) (plainQ q).head.length (plainQ q).head.length) := hb9.cell 1
          have q2 : wo.cell? ⟨g9, 2, none⟩ = some (.slice B4 q.atoms.length d4) := hb9.cell 2
          have he3 := he.out
          rw [List.take_of_length_le (by simp)] at he3
          have HLD := hide (show LAt RB 2 wo A7 data.length (turnD data) from tabs_lat (by simp [turnD]) ho.out he3)
          have HQ9 := hide hq9
          have HX9 := hide (HXF.out.trans hX.out)
          have HA9 := hide (R3.out.ext RRow.stab HX9.out)
          obtain ⟨rb, han, hlw⟩ := HAN.out cur KK gh _ wo B4 A7 d4 c7 HCL.out HCTL.out HQ9.out HLD.out HKK.out
          have HAC := hide han
          have HLW := hide hlw
          clear he he3 ho hb9 hq9 han hlw
          obtain ⟨b, eb⟩ := rb
          simp only at HLW HAC
          have hcase : (ea = 0 ∧ eb = 0) ∨ ((ea != 0) = true) ∨ (ea = 0 ∧ (eb != 0) = true) := by
            by_cases h1 : ea = 0
            · by_cases h2 : eb = 0
              · exact .inl ⟨h1, h2⟩
              · exact .inr (.inr ⟨h1, by simpa using h2⟩)
            · exact .inr (.inl (by simpa using h1))
          have HX10 := hide (XW3.out.trans (HXF.out.trans hX.out))
          rcases hcase with ⟨rfl, rfl⟩ | hne | ⟨rfl, hne⟩
          · obtain rfl : a = b := HLW.out rfl rfl
            have hal : a.length ≤ 1073741824 := by have h9 := hle1; first | omega | (simp only at h9; omega)
            go_wp2_with (first
              | ((with_reducible refine HAC.out.mono ?_); rintro e w7 ⟨A11, c11, rfl, r11, x11⟩; have X11 := hide x11; have R11 := hide r11; have S11 := hide (HA9.out.ext RRow.stab x11); clear r11 x11
                 have HSA := hide (fun w9 (h9 : Ext w7 w9) => same_all a a A3 A11 a.length a.length c3 c11 w9 (S11.out.ext RRow.stab h9) (R11.out.ext RRow.stab h9) (by omega) (fun r hr => by have := HRW.out r hr; omega))
                 rw [(sameRs_iff (r := a) (s := a)).2 rfl] at HSA)
              | ((with_reducible refine (HSA.out _ (Ext.refl _)).mono ?_); rintro e w9 ⟨rfl, x9⟩; have X9 := hide (HX10.out.trans (X11.out.trans x9)); clear x9)
              | ((with_reducible refine (awake_any _).mono ?_); rintro e w10 ⟨rfl, x10⟩; have X10 := hide (X9.out.trans x10); clear x10))
            go_ret
            exact ⟨rfl, X10.out⟩
          all_goals go_wp2_with (first
              | ((with_reducible refine HAC.out.mono ?_); rintro e w7 ⟨A11, c11, rfl, r11, x11⟩; have X11 := hide (HX10.out.trans x11); clear r11 x11)
              | ((with_reducible refine (awake_any _).mono ?_); rintro e w10 ⟨rfl, x10⟩; have X10 := hide (X11.out.trans x10); clear x10))
          all_goals go_ret
          all_goals exact ⟨rfl, X10.out⟩
end Go.Proofs.Ytpfjkjmimmklcaa
