/-
  The document's index: Get, Put.
-/
import Derived.Test.YtlpbkhdpfmknkaaRefX
namespace Go.Proofs.Ytlpbkhdpfmknkaa
open Go.RowKit

/-- what Get answers -/
def RLook (L : List ByteArray) (N : List Int) (key : ByteArray) (v : Int) (b : Bool) : Prop := (b = true ∧ ∃ p : Nat, L[p]? = some key ∧ N[p]? = some v) ∨ (b = false ∧ v = 0 ∧ key ∉ L)
theorem RIx.numAt {w : World} {R : Nat → Prop} {d most probes a m : Nat} {A M : Option Addr} {L : List ByteArray} {N : List Int} (h : RIx w R d most probes A a M m L N) {p : Nat} {s : ByteArray} (hp : L[p]? = some s) : ∃ v, N[p]? = some v ∧ p < N.length := by
  have h1 : p < N.length := by rw [h.len]; exact (List.getElem?_eq_some_iff.1 hp).1
  exact ⟨N[p], List.getElem?_eq_getElem h1, h1⟩
theorem RIx.probe {w : World} {R : Nat → Prop} {d most probes a m : Nat} {A M : Option Addr} {L : List ByteArray} {N : List Int} (h : RIx w R d most probes A a M m L N) : RIx (w.setCell ⟨d, 1, none⟩ (.int .i64 ((probes : Int) + 1))) R d most (probes + 1) A a M m L N ∧ Chg R w (w.setCell ⟨d, 1, none⟩ (.int .i64 ((probes : Int) + 1))) :=
  ⟨⟨h.toRRaw.probe.1, h.len, h.rises, h.small, h.most⟩, h.toRRaw.probe.2⟩

set_option maxRecDepth 100000 in
theorem rget_any {w : World} {R : Nat → Prop} {d most probes a m : Nat} {A M : Option Addr} {L : List ByteArray} {N : List Int} (h : RIx w R d most probes A a M m L N) (hpr : probes ≤ 4611686018427387904) (key : ByteArray) (hk : key.size ≤ 1048576) :
    Calls Try.prog 24 #[.pointer (some ⟨d, 0, none⟩), .string key] w fun e w' => ∃ (v : Int) (b : Bool), e = .returned (.tuple #[.int .i64 v, .bool b]) ∧ RLook L N key v b ∧ RIx w' R d most (probes + 1) A a M m L N ∧ Chg R w w' := by
  have HP := hide h.probe
  have HA := hide (at_any HP.out.1 key hk)
  have a1 : w.cell? ⟨d, 1, none⟩ = some (.int .i64 probes) := h.blk.cell 1
  have f1 : w.frozen? ⟨d, 1, none⟩ = false := h.blk.frozen 1
  clear h
  go_enter Try.func24, Try.ntmps24
  go_wp2_with fail
  refine HA.out.mono ?_
  rintro e w1 ⟨r, rfl, hr, x1⟩
  have HI := hide (HP.out.1.ext x1)
  have HC := hide (HP.out.2.trans' (Chg.of x1))
  clear x1 a1 f1
  rcases hr with ⟨p, rfl, hp⟩ | ⟨rfl, hno⟩
  · obtain ⟨v, hv, hpl⟩ := HI.out.numAt hp
    obtain ⟨g, rfl, c0, _⟩ := HI.out.num hv
    have a3 : w1.cell? ⟨d, 3, none⟩ = some (.slice (some ⟨g, 0, none⟩) N.length m) := HI.out.blk.cell 3
    have HR := hide (show RLook L N key v true from .inl ⟨rfl, p, hp, hv⟩)
    have hN : N.length ≤ 1048576 := by have := HI.out.len; have := HI.out.most; omega
    clear hp hv
    go_wp2_with fail
    go_ret2
    exact ⟨v, true, rfl, HR.out, HI.out, HC.out⟩
  · have HR := hide (show RLook L N key 0 false from .inr ⟨rfl, rfl, hno⟩)
    clear hno
    go_wp2_with fail
    go_ret2
    exact ⟨0, false, rfl, HR.out, HI.out, HC.out⟩

/-- what Put answers and leaves -/
def RPutRes (L : List ByteArray) (N : List Int) (most : Nat) (key : ByteArray) (v old : Int) (had : Bool) (err : Int) (L' : List ByteArray) (N' : List Int) : Prop :=
  (4096 < key.size ∧ old = 0 ∧ had = false ∧ err = 51 ∧ L' = L ∧ N' = N) ∨
  (key.size ≤ 4096 ∧ had = true ∧ err = 0 ∧ L' = L ∧ ∃ p : Nat, L[p]? = some key ∧ N[p]? = some old ∧ N' = N.set p v) ∨
  (key.size ≤ 4096 ∧ key ∉ L ∧ L.length = most ∧ old = 0 ∧ had = false ∧ err = 52 ∧ L' = L ∧ N' = N) ∨
  (key.size ≤ 4096 ∧ key ∉ L ∧ L.length < most ∧ old = 0 ∧ had = false ∧ err = 0 ∧ ∃ p : Nat, Cut L key p ∧ L' = insAt L p key ∧ N' = insAt N p v)
def RPutPost (w : World) (R : Nat → Prop) (d most probes : Nat) (L : List ByteArray) (N : List Int) (key : ByteArray) (v : Int) (e : Ending) (w' : World) : Prop :=
  ∃ (old : Int) (had : Bool) (err : Int) (R' : Nat → Prop) (A' M' : Option Addr) (a' m' : Nat) (L' : List ByteArray) (N' : List Int), e = .returned (.tuple #[.int .i64 old, .bool had, .int .i64 err]) ∧ RPutRes L N most key v old had err L' N' ∧ RIx w' R' d most (probes + 1) A' a' M' m' L' N' ∧ (∀ g, R' g → R g ∨ w.heap.size ≤ g) ∧ Chg R w w'
set_option maxRecDepth 100000 in
theorem rput_long {w : World} {R : Nat → Prop} {d most probes a m : Nat} {A M : Option Addr} {L : List ByteArray} {N : List Int} (h : RIx w R d most probes A a M m L N) (hpr : probes ≤ 4611686018427387904) (key : ByteArray) (v : Int) (hk : key.size ≤ 1048576) (hl : 4096 < key.size) :
    Calls Try.prog 23 #[.pointer (some ⟨d, 0, none⟩), .string key, .int .i64 v] w (RPutPost w R d most probes L N key v) := by
  have HP := hide h.probe
  have a1 : w.cell? ⟨d, 1, none⟩ = some (.int .i64 probes) := h.blk.cell 1
  have f1 : w.frozen? ⟨d, 1, none⟩ = false := h.blk.frozen 1
  clear h
  have HR := hide (show RPutPost w R d most probes L N key v (.returned (.tuple #[.int .i64 0, .bool false, .int .i64 51])) (w.setCell ⟨d, 1, none⟩ (.int .i64 ((probes : Int) + 1))) from ⟨0, false, 51, R, A, M, a, m, L, N, rfl, .inl ⟨hl, rfl, rfl, rfl, rfl, rfl⟩, HP.out.1, fun _ h => .inl h, HP.out.2⟩)
  go_enter Try.func23, Try.ntmps23
  go_wp2_with fail
  go_ret3
  exact HR.out
set_option maxRecDepth 100000 in
theorem rput_there {w : World} {R : Nat → Prop} {d most probes a m : Nat} {A M : Option Addr} {L : List ByteArray} {N : List Int} (h : RIx w R d most probes A a M m L N) (hpr : probes ≤ 4611686018427387904) (key : ByteArray) (v : Int) (hk : key.size ≤ 4096) (hin : key ∈ L) :
    Calls Try.prog 23 #[.pointer (some ⟨d, 0, none⟩), .string key, .int .i64 v] w (RPutPost w R d most probes L N key v) := by
  have HP := hide h.probe
  have HA := hide (at_any HP.out.1 key (by omega))
  have a1 : w.cell? ⟨d, 1, none⟩ = some (.int .i64 probes) := h.blk.cell 1
  have f1 : w.frozen? ⟨d, 1, none⟩ = false := h.blk.frozen 1
  have HIN := hide hin
  clear h hin
  go_enter Try.func23, Try.ntmps23
  go_wp2_with fail
  refine HA.out.mono ?_
  rintro e w1 ⟨r, rfl, hr, x1⟩
  have HI := hide (HP.out.1.ext x1)
  have HC := hide (HP.out.2.trans' (Chg.of x1))
  clear x1 a1 f1
  rcases hr with ⟨p, rfl, hp⟩ | ⟨rfl, hno⟩
  · obtain ⟨u, hu, hpl⟩ := HI.out.numAt hp
    obtain ⟨g, rfl, c0, c1⟩ := HI.out.num hu
    have a3 : w1.cell? ⟨d, 3, none⟩ = some (.slice (some ⟨g, 0, none⟩) N.length m) := HI.out.blk.cell 3
    have hN : N.length ≤ 1048576 := by have := HI.out.len; have := HI.out.most; omega
    have hset := HI.out.toRRaw.setNum hpl v
    have HR := hide (show RPutPost w R d most probes L N key v (.returned (.tuple #[.int .i64 u, .bool true, .int .i64 0])) (w1.setCell ⟨g, p, none⟩ (.int .i64 v)) from ⟨u, true, 0, R, A, _, a, m, L, N.set p v, rfl, .inr (.inl ⟨hk, rfl, rfl, rfl, p, hp, hu, rfl⟩), ⟨hset.1, by rw [List.length_set]; exact HI.out.len, HI.out.rises, HI.out.small, HI.out.most⟩, fun _ h => .inl h, HC.out.trans' hset.2⟩)
    clear hp hu hset
    go_wp2_with fail
    go_ret3
    exact HR.out
  · exact absurd HIN.out hno
set_option maxRecDepth 100000 in
theorem rput_full {w : World} {R : Nat → Prop} {d most probes a m : Nat} {A M : Option Addr} {L : List ByteArray} {N : List Int} (h : RIx w R d most probes A a M m L N) (hpr : probes ≤ 4611686018427387904) (key : ByteArray) (v : Int) (hk : key.size ≤ 4096) (hin : key ∉ L) (hl : L.length = most) :
    Calls Try.prog 23 #[.pointer (some ⟨d, 0, none⟩), .string key, .int .i64 v] w (RPutPost w R d most probes L N key v) := by
  subst hl
  have HP := hide h.probe
  have HA := hide (at_any HP.out.1 key (by omega))
  have a1 : w.cell? ⟨d, 1, none⟩ = some (.int .i64 probes) := h.blk.cell 1
  have f1 : w.frozen? ⟨d, 1, none⟩ = false := h.blk.frozen 1
  have HIN := hide hin
  clear h hin
  go_enter Try.func23, Try.ntmps23
  go_wp2_with fail
  refine HA.out.mono ?_
  rintro e w1 ⟨r, rfl, hr, x1⟩
  have HI := hide (HP.out.1.ext x1)
  have HC := hide (HP.out.2.trans' (Chg.of x1))
  clear x1 a1 f1
  rcases hr with ⟨p, rfl, hp⟩ | ⟨rfl, hno⟩
  · exact absurd (List.mem_of_getElem? hp) HIN.out
  · clear hno
    have a0 : w1.cell? ⟨d, 0, none⟩ = some (.int .i64 L.length) := HI.out.blk.cell 0
    have a2 : w1.cell? ⟨d, 2, none⟩ = some (.slice A L.length a) := HI.out.blk.cell 2
    have a0 := cell_ext a0
    have a2 := cell_ext a2
    go_wp2_with fail
    refine wp_region_ext 10 (by kernel_rfl) (by kernel_rfl) (by kernel_rfl) ?_
    iterate 10
      refine wpE_k (by kernel_rfl) (by kernel_rfl) ?_
      apply Exists.intro
      refine ⟨fun w1 hw1 => ?_, fun K hK => ?_⟩
      · go_simp; first | done | rfl
      go_simp; refine hK _ _ ?_; clear hK K
    refine wpE_nil ⟨rfl, by kernel_rfl, fun wq hwq => ?_⟩
    simp only [EndQ]
    refine wpList_nil ?_
    have HR := hide (show RPutPost w R d L.length probes L N key v (.returned (.tuple #[.int .i64 0, .bool false, .int .i64 52])) wq from ⟨0, false, 52, R, A, M, a, m, L, N, rfl, .inr (.inr (.inl ⟨hk, HIN.out, rfl, rfl, rfl, rfl, rfl, rfl⟩)), HI.out.ext hwq, fun _ h => .inl h, HC.out.trans' (Chg.of hwq)⟩)
    clear hwq a0 a2
    go_wp2_with fail
    go_ret3
    exact HR.out
end Go.Proofs.Ytlpbkhdpfmknkaa
