/-
  HashidxPlays: the law's walk.
-/
import Derived.Test.YtlpbkhdpfmknkaaStepF
namespace Go.Proofs.Ytlpbkhdpfmknkaa
open Go.RowKit

/-- one call of a script -/
structure OpD where
  k : Int
  two : Bool
  key : ByteArray
  n : Int
def OpD.cells (o : OpD) : List Value := [.int .i64 o.k, .bool o.two, .string o.key, .int .i64 o.n]
def OpsAt (w : World) (A : Option Addr) (n : Nat) (S : List OpD) : Prop := LAt (RFlat OpD.cells) 4 w A n S
theorem OpsAt.ext {w w' : World} {A : Option Addr} {n : Nat} {S : List OpD} (h : OpsAt w A n S) (hw : Ext w w') : OpsAt w' A n S := LAt.ext h (RFlat.stab _) hw
/-- two pairs, apart -/
structure PInv (w0 w : World) (x c y d most p q : Nat) (Bx Rc By Rd : Nat → Prop) : Prop where
  one : Two w Bx Rc x c most p
  two : Two w By Rd y d (most + 2) q
  apart : ∀ g, Bx g ∨ Rc g → ¬ (By g ∨ Rd g)
  newX : ∀ g, Bx g ∨ Rc g → w0.heap.size ≤ g
  newY : ∀ g, By g ∨ Rd g → w0.heap.size ≤ g
  ext : Ext w0 w
section
variable {w0 w w' : World} {x c y d most p q : Nat} {Bx Rc By Rd : Nat → Prop}
theorem PInv.go (h : PInv w0 w x c y d most p q Bx Rc By Rd) (hw : Ext w w') : PInv w0 w' x c y d most p q Bx Rc By Rd :=
  ⟨h.one.ext hw, h.two.ext hw, h.apart, h.newX, h.newY, h.ext.trans hw⟩
theorem PInv.stepX (h : PInv w0 w x c y d most p q Bx Rc By Rd) {e : Ending} (hs : StepPost w Bx Rc x c most p e w') : e = .returned (.bool true) ∧ ∃ p' Bx' Rc', p' ≤ p + 1 ∧ PInv w0 w' x c y d most p' q Bx' Rc' By Rd := by
  obtain ⟨B', R', p', he, h1, h2, h3, h4⟩ := hs
  refine ⟨he, p', B', R', h1, h2, h.two.far h4 fun g hg hx => h.apart g hx hg, fun g hg hy => ?_, fun g hg => ?_, h.newY, h4.ext h.ext h.newX⟩
  · rcases h3 g hg with h5 | h5
    · exact h.apart g h5 hy
    · have := h.two.old g hy; omega
  · rcases h3 g hg with h5 | h5
    · exact h.newX g h5
    · exact Nat.le_trans h.ext.size h5
theorem PInv.stepY (h : PInv w0 w x c y d most p q Bx Rc By Rd) {e : Ending} (hs : StepPost w By Rd y d (most + 2) q e w') : e = .returned (.bool true) ∧ ∃ q' By' Rd', q' ≤ q + 1 ∧ PInv w0 w' x c y d most p q' Bx Rc By' Rd' ∧ Chg (fun g => By g ∨ Rd g) w w' := by
  obtain ⟨B', R', p', he, h1, h2, h3, h4⟩ := hs
  refine ⟨he, p', B', R', h1, ⟨h.one.far h4 fun g hg hx => h.apart g hg hx, h2, fun g hg hy => ?_, h.newX, fun g hg => ?_, h4.ext h.ext h.newY⟩, h4⟩
  · rcases h3 g hy with h5 | h5
    · exact h.apart g hg h5
    · have := h.one.old g hg; omega
  · rcases h3 g hg with h5 | h5
    · exact h.newY g h5
    · exact Nat.le_trans h.ext.size h5
end
/-- the document's index when it is made -/
theorem RIx.start {w : World} {d most : Nat} (hb : Blk w d 43 #[.int .i64 most, .int .i64 0, .slice none 0 0, .slice none 0 0]) (hm : most ≤ 1048576) : RIx w (fun g => g = d) d most 0 none 0 none 0 [] [] :=
  ⟨⟨hb, World.ownsRow_nil _ _ _ _, World.ownsRow_nil _ _ _ _, rfl, fun x hx => (by cases hx), fun x hx => (by cases hx), fun g hg => by rw [hg]; exact hb.lt⟩, rfl, List.Pairwise.nil, fun s hs => (by cases hs), ⟨Nat.zero_le _, hm⟩⟩

theorem PInv.start {w w1 w2 : World} {x y m : Nat} (h1 : HIx w1 (fun b => w.heap.size ≤ b ∧ b < w1.heap.size) x m 0 []) (x1 : Ext w w1) (h2 : HIx w2 (fun b => w1.heap.size ≤ b ∧ b < w2.heap.size) y (m + 2) 0 []) (x2 : Ext w1 w2) (hm : m + 2 ≤ 1048576) :
    PInv w ((w2.alloc (.cells #[.int .i64 m, .int .i64 0, .slice none 0 0, .slice none 0 0] 43)).alloc (.cells #[.int .i64 ((m : Int) + 2), .int .i64 0, .slice none 0 0, .slice none 0 0] 43)) x w2.heap.size y (w2.heap.size + 1) m 0 0 (fun b => w.heap.size ≤ b ∧ b < w1.heap.size) (fun g => g = w2.heap.size) (fun b => w1.heap.size ≤ b ∧ b < w2.heap.size) (fun g => g = w2.heap.size + 1) := by
  have x3 := (Ext.alloc w2 (.cells #[.int .i64 m, .int .i64 0, .slice none 0 0, .slice none 0 0] 43)).alloc' (.cells #[.int .i64 ((m : Int) + 2), .int .i64 0, .slice none 0 0, .slice none 0 0] 43)
  have hb1 := (Blk.new w2 43 #[.int .i64 m, .int .i64 0, .slice none 0 0, .slice none 0 0]).ext (Ext.alloc _ (.cells #[.int .i64 ((m : Int) + 2), .int .i64 0, .slice none 0 0, .slice none 0 0] 43))
  have hb2 := Blk.new (w2.alloc (.cells #[.int .i64 m, .int .i64 0, .slice none 0 0, .slice none 0 0] 43)) 43 #[.int .i64 ((m : Int) + 2), .int .i64 0, .slice none 0 0, .slice none 0 0]
  rw [World.size_alloc] at hb2
  have hs1 := x1.size
  have hs2 := x2.size
  have hag : Agree [] [] [] := ⟨.nil, rfl, List.Pairwise.nil⟩
  refine ⟨⟨[], none, 0, none, 0, [], [], (h1.ext x2).ext x3, RIx.start hb1 (by omega), hag, fun g hg e => by omega⟩, ⟨[], none, 0, none, 0, [], [], h2.ext x3, RIx.start (most := m + 2) (by rw [show ((m + 2 : Nat) : Int) = (m : Int) + 2 by omega]; exact hb2) hm, hag, fun g hg e => by omega⟩, fun g hg hx => by omega, fun g hg => by omega, fun g hg => by omega, (x1.trans x2).trans x3⟩

set_option maxHeartbeats 4000000 in
set_option maxRecDepth 100000 in
theorem law_plays (most : Int) (S : List OpD) (A : Option Addr) (n cc : Nat) (w : World) (_hx : -9223372036854775808 ≤ most ∧ most ≤ 9223372036854775807) (hS : OpsAt w A n S) (hn : n ≤ 1048576) (hsz : ∀ o ∈ S, o.key.size ≤ 1048576) :
    Calls Try.prog 6 #[.int .i64 most, .slice A n cc] w fun e w' => e = .returned (.bool true) ∧ Ext w w' := by
  have HGD := hide (good_any most)
  by_cases hg : 1 ≤ most ∧ most ≤ 1048576
  · have hgb : (decide (1 ≤ most) && decide (most ≤ 1048576)) = true := by simp; omega
    rw [hgb] at HGD
    clear hgb
    by_cases hg2 : most ≤ 524288
    · obtain ⟨m, rfl⟩ : ∃ m : Nat, most = (m : Int) := ⟨most.toNat, by omega⟩
      have hg3 : ¬ (524288 : Int) < (m : Int) := by omega
      have HN := hide (new_good m w (by omega) (by omega))
      have HS := hide hS; have HZ := hide hsz
      clear hS hsz
      go_enter Try.func6, Try.ntmps6
      go_wp2_with fail
      refine (HGD.out _).mono ?_
      rintro e w2 ⟨rfl, rfl⟩
      obtain ⟨w, rfl⟩ : ∃ w : World, w = w2 := ⟨_, rfl⟩
      go_wp2_with fail
      refine HN.out.mono ?_
      rintro e w1 ⟨x, rfl, h1, x1⟩
      have hn2 := new_good (m + 2) w1 (by omega) (by omega)
      rw [show ((m + 2 : Nat) : Int) = (m : Int) + 2 by omega] at hn2
      have HN2 := hide hn2
      have H1 := hide h1; have X1 := hide x1; clear h1 x1 hn2
      go_wp2_with fail
      refine HN2.out.mono ?_
      rintro e w2 ⟨y, rfl, h2, x2⟩
      have HI := hide (PInv.start H1.out X1.out h2 x2 (by omega))
      clear h2 x2
      go_wp2_with fail
      go_loopw [12, 55] (fun _ s55 w' => ∃ (i p q : Nat) (Bx Rc By Rd : Nat → Prop), i ≤ n ∧ s55 = .int .i64 i ∧ p ≤ i ∧ q ≤ i ∧ Hid (PInv w w' x w2.heap.size y (w2.heap.size + 1) m p q Bx Rc By Rd)) (fun _ s55 _ => n - (intOf s55).toNat)
      case atStart => exact ⟨0, 0, 0, _, _, _, _, by omega, rfl, by omega, by omega, HI.out⟩
      case round =>
        obtain ⟨i, p, q, Bx, Rc, By, Rd, hin, rfl, hp, hq, hP⟩ := hrel
        clear HI
        by_cases h : i < n
        · obtain ⟨b, off, o, cs, rfl, ho, hbl, _, _, hcs, hcell⟩ := LAt.get (by omega) (HS.out.ext hP.out.ext) h
          have hcs : cs = o.cells := hcs
          subst hcs
          have hos := HZ.out o (List.mem_of_getElem? ho)
          obtain ⟨kind, tw, key, num⟩ := o
          have c0 : wr.cell? ⟨b, off + i * 4, none⟩ = some (.int .i64 kind) := hcell 0 (by omega)
          have c1 : wr.cell? ⟨b, off + i * 4 + 1, none⟩ = some (.bool tw) := hcell 1 (by omega)
          have c2 : wr.cell? ⟨b, off + i * 4 + 2, none⟩ = some (.string key) := hcell 2 (by omega)
          have c3 : wr.cell? ⟨b, off + i * 4 + 3, none⟩ = some (.int .i64 num) := hcell 3 (by omega)
          dsimp only at hos
          have HP2 := hide (hP.out.go (Ext.alloc wr (.cells #[.int .i64 kind, .bool tw, .string key, .int .i64 num] 45)))
          have HOY := hide (fun g (hg : By g ∨ Rd g) => hP.out.two.old g hg)
          have HB2 := hide (Blk.new wr 45 #[.int .i64 kind, .bool tw, .string key, .int .i64 num])
          clear hcell ho hP
          cases tw with
          | true =>
            have HST := hide (step_fn HP2.out.two (by omega) kind num true key hos)
            go_wp2_with fail
            refine HST.out.mono ?_
            rintro e w5 hs
            obtain ⟨rfl, q', By', Rd', hq', hP5, hC5⟩ := HP2.out.stepY hs
            have HP5 := hide hP5
            have e1 : w5.cell? ⟨wr.heap.size, 1, none⟩ = some (.bool true) := hC5.cell (HB2.out.cell 1) fun hg => by have := HOY.out _ hg; dsimp only at this; omega
            clear hs hP5 hC5 HST c0 c1 c2 c3
            go_wp2_with fail
            go_roundw
            case rel => exact ⟨i + 1, p, q', _, _, _, _, by omega, by go_num, by omega, by omega, HP5.out⟩
            case measure => simp [intOf]; omega
          | false =>
            have HST := hide (step_fn HP2.out.one (by omega) kind num false key hos)
            go_wp2_with fail
            refine HST.out.mono ?_
            rintro e w5 hs
            obtain ⟨rfl, p', Bx', Rc', hp', hP5⟩ := HP2.out.stepX hs
            have HP5 := hide hP5
            clear hs hP5 HST c0 c1 c2 c3
            go_wp2_with fail
            go_roundw
            case rel => exact ⟨i + 1, p', q, _, _, _, _, by omega, by go_num, by omega, by omega, HP5.out⟩
            case measure => simp [intOf]; omega
        · have HK1 := hide (keys_fn hP.out.one)
          go_wp2_with fail
          refine HK1.out.mono ?_
          rintro e w5 ⟨rfl, x5⟩
          have HP5 := hide (hP.out.go x5)
          have HK2 := hide (keys_fn HP5.out.two)
          clear x5
          go_wp2_with fail
          refine HK2.out.mono ?_
          rintro e w6 ⟨rfl, x6⟩
          have X6 := hide (HP5.out.ext.trans x6)
          clear x6
          go_wp2_with fail
          refine (awake_hid _).mono ?_
          rintro e w7 ⟨rfl, x7⟩
          have X7 := hide (X6.out.trans x7); clear x7
          go_wp2_with fail
          go_ret
          exact ⟨rfl, X7.out⟩
    · have hg3 : (524288 : Int) < most := by omega
      clear hg2 hg
      go_enter Try.func6, Try.ntmps6
      go_wp2_with fail
      refine (HGD.out _).mono ?_
      rintro e w2 ⟨rfl, rfl⟩
      go_wp2_with fail
      refine (awake_hid _).mono ?_
      rintro e w6 ⟨rfl, x6⟩
      have X6 := hide x6; clear x6
      go_wp2_with fail
      go_ret
      exact ⟨rfl, X6.out⟩
  · have hgb : (decide (1 ≤ most) && decide (most ≤ 1048576)) = false := by simp; omega
    rw [hgb] at HGD
    clear hgb hg
    go_enter Try.func6, Try.ntmps6
    go_wp2_with fail
    refine (HGD.out _).mono ?_
    rintro e w2 ⟨rfl, rfl⟩
    go_wp2_with fail
    refine (awake_hid _).mono ?_
    rintro e w6 ⟨rfl, x6⟩
    have X6 := hide x6; clear x6
    go_wp2_with fail
    go_ret
    exact ⟨rfl, X6.out⟩
end Go.Proofs.Ytlpbkhdpfmknkaa
