/-
  
  Lists of rows: are they the same; a copy of them.
  A range over a function: which blocks turn; its record in memory; one round; rows that are collected.
-/
import Derived.Test.YtahdiiaadjdmcaaGreatGround
import Derived.RangeFuncLeaves
import Derived.RangeFuncRecord
import Derived.RecoverIn
import Derived.ControlIn
import Derived.Shelf.Abstract
namespace Go.Proofs.YtahdiiaadjdmcaaGreat
open Go.RowKit

theorem toList_iff (a b : ByteArray) : a.toList = b.toList ↔ a = b :=
  ⟨fun h => by
    rw [ByteArray.toList_eq, ByteArray.toList_eq] at h
    obtain ⟨a⟩ := a; obtain ⟨b⟩ := b
    exact congrArg ByteArray.mk (Array.toList_inj.1 h), fun h => by rw [h]⟩

set_option maxRecDepth 100000 in
theorem same_any (r s : List V) (A B : Option Addr) (n m c d : Nat) (w : World) (ha : RowAt w A n r) (hb : RowAt w B m s) (hn : n ≤ 140737488355328) :
    Calls Tryz.prog 36 #[.slice A n c, .slice B m d] w fun e w' => e = .returned (.bool (sameR r s)) ∧ Ext w w' := by
  have Ha := hide ha; have Hb := hide hb; clear ha hb
  by_cases hl : n = m
  · subst hl
    have hne : ((n : Int) != (n : Int)) = false := by simp
    go_enter Tryz.func36, Tryz.ntmps36
    go_wp2
    go_loopw [4, 5] (fun _ k w' => ∃ i : Nat, i ≤ n ∧ k = .int .i64 i ∧ Hid (sameR r s = sameR (r.drop i) (s.drop i)) ∧ Hid (Ext w w')) (fun _ k _ => n - (intOf k).toNat)
    case atStart => exact ⟨0, by omega, rfl, rfl, Ext.refl _⟩
    case round =>
      obtain ⟨i, hin, rfl, ho, hw⟩ := hrel
      by_cases h : i < n
      · obtain ⟨b, off, x, rfl, hx, hb1, c0, c1, c2⟩ := (Ha.out.ext hw.out).get h
        obtain ⟨b', off', y, rfl, hy, hb2, d0, d1, d2⟩ := (Hb.out.ext hw.out).get h
        have hd := hide (sameR_drop r s i x y hx hy); clear hx hy
        have c0 := cell_ext c0
        have c1 := cell_ext c1
        have c2 := cell_ext c2
        have d0 := cell_ext d0
        have d1 := cell_ext d1
        have d2 := cell_ext d2
        go_wp2_with fail
        refine wp_region_ext 9 (by kernel_rfl) (by kernel_rfl) (by kernel_rfl) ?_
        iterate 8
          refine wpE_k (by kernel_rfl) (by kernel_rfl) ?_
          apply Exists.intro
          refine ⟨fun w1 hw1 => ?_, fun K hK => ?_⟩
          · go_simp; first | done | rfl
          go_simp; refine hK _ _ ?_; clear hK K
        refine wpE_k (by kernel_rfl) (by kernel_rfl) ?_
        refine ⟨.bool (!sameV x y), fun w1 hw1 => ?_, fun K hK => ?_⟩
        · clear c0 c1 c2 d0 d1 d2
          go_simp
          unfold sameV
          have ht := toList_iff x.t y.t
          by_cases h1 : x.k = y.k <;> by_cases h2 : x.i = y.i <;> by_cases h3 : x.t = y.t <;> simp [h1, h2, h3, ht]
        clear c0 c1 c2 d0 d1 d2
        go_simp; refine hK _ _ ?_; clear hK K
        refine wpE_nil ⟨rfl, by kernel_rfl, fun w1 hw1 => ?_⟩
        simp only [EndQ]
        refine wpList_nil ?_
        have HF := hide (hw.out.trans hw1); clear hw1
        by_cases he : sameV x y = true
        · have he1 : (!sameV x y) = false := by rw [he]; rfl
          simp only [he1]
          have He := hide he; clear he he1
          go_wp2_with fail
          go_roundw
          case rel => exact ⟨i + 1, by omega, by go_num, by rw [Hid, ho.out, hd.out, He.out]; simp, HF.out⟩
          case measure => simp [intOf]; omega
        · have he2 : sameV x y = false := by simpa using he
          have he1 : (!sameV x y) = true := by rw [he2]; rfl
          simp only [he1]
          have He := hide he2; clear he he2 he1
          go_wp2_with fail
          go_ret
          exact ⟨ret_bool (by rw [ho.out, hd.out, He.out]; simp), HF.out⟩
      · have hlen := hide (And.intro Ha.out.len Hb.out.len)
        go_wp2_with fail
        go_ret
        exact ⟨ret_bool (by rw [ho.out, List.drop_of_length_le (by have := hlen.out; omega), List.drop_of_length_le (by have := hlen.out; omega)]; rfl), hw.out⟩
  · have hne : ((n : Int) != (m : Int)) = true := by simp; omega
    have hs := hide (sameR_len (r := r) (s := s) (by have := Ha.out.len; have := Hb.out.len; omega))
    go_enter Tryz.func36, Tryz.ntmps36
    go_wp2
    go_ret
    exact ⟨ret_bool hs.out.symm, Ext.refl _⟩

theorem infoV : (Tryz.prog.info? 85).map (fun i => (i.zero, i.size, i.bytes)) = some (some (.agg #[.int .i64 0, .int .i64 0, .string .empty]), 3, 32) := by kernel_rfl
theorem sizeV : (Tryz.prog.info? 85).map (·.size) = some 3 := by kernel_rfl

theorem splice_all {L cs : List Value} (h : L.length = cs.length) : splice L 0 cs = cs := by
  simp [splice, h]

set_option maxRecDepth 100000 in
theorem copy_any (r : List V) (A : Option Addr) (n c : Nat) (w : World) (ha : RowAt w A n r) (hn : n ≤ 16777216) :
    Calls Tryz.prog 16 #[.slice A n c] w (RetOwn w 85 3 n (cellsR r)) := by
  obtain ⟨i0, hi0, hz0, hz1, hz2⟩ := info_parts infoV
  have hmk := run_make_n (P := Tryz.prog) 28 85 i0 _ Tryz.underlying28 hi0 hz0 (by omega) .i64 .i64 n hn
  simp only [hz1] at hmk
  have Ha := hide ha; clear ha hz1 hz2 hz0 hi0
  go_enter Tryz.func16, Tryz.ntmps16
  go_wp2_with (refine wpList_copy_sl rfl (.tmp 7) (.tmp 8) 28 28 rfl 85 3 Tryz.underlying28 sizeV A w.heap.size 0 n n n c rfl rfl _ 85 (heap_alloc_new w _) (cellsR r) (Ha.out.ext (Ext.alloc w _)).2 (Nat.le_refl _) (by rw [size_madeCells, Nat.zero_add, Ha.out.2.1]; exact Nat.le_refl _) (cellsR_one r) w (Ext.alloc w _) (Nat.le_refl _) ?_; intro w1 hg1 hE1 hs1)
  go_ret
  refine ⟨_, _, rfl, ?_, hE1.out⟩
  have hl := Ha.out.2.1
  have hg := hg1.out
  rw [splice_all (by rw [Array.length_toList, size_madeCells]; exact hl.symm)] at hg
  refine ⟨hl, .inr ⟨w.heap.size, n, _, rfl, Nat.le_refl _, hg, Nat.le_refl _, by unfold maxLen; omega, by simpa using hl, ?_⟩⟩
  rw [← hl]; simp
end Go.Proofs.YtahdiiaadjdmcaaGreat

namespace Go.Proofs.YtahdiiaadjdmcaaGreat
open Go.RowKit

def sameRs : List (List V) → List (List V) → Bool
  | [], [] => true
  | [], _ :: _ => false
  | _ :: _, [] => false
  | a :: l, b :: m => sameR a b && sameRs l m
theorem LAt.row_ {w : World} {A : Option Addr} {n : Nat} {xs : List (List V)} (h : LAt RRow 1 w A n xs) {i : Nat} (hi : i < n) :
    ∃ b off r A9 n9 c9, A = some ⟨b, off, none⟩ ∧ xs[i]? = some r ∧ b < w.heap.size ∧ w.cell? ⟨b, off + i, none⟩ = some (.slice A9 n9 c9) ∧ RowAt w A9 n9 r := by
  obtain ⟨b, off, r, cs, hA, hx, hb1, _, _, ⟨A9, n9, c9, rfl, hR⟩, hcell⟩ := h.get (by omega) hi
  have := hcell 0 (by omega)
  rw [Nat.mul_one, Nat.add_zero] at this
  exact ⟨b, off, r, A9, n9, c9, hA, hx, hb1, this, hR⟩

/-- a row of the call's own -/
def RMine (base : Nat) : World → List Value → List V → Prop := fun w cs r => ∃ A n c, cs = [.slice A n c] ∧ w.ownsRow base 85 3 (.slice A n c) n (cellsR r)
theorem mine_ext {w w' : World} {base : Nat} {e : TypeId} {s n : Nat} {v : Value} {xs : List Value} (h : w.ownsRow base e s v n xs) (hw : Ext w w') : w'.ownsRow base e s v n xs :=
  h.kept (row := none) ⟨Below.os hw, Below.tape hw, Below.output hw, hw.size, fun _ hk _ => hw.block hk⟩ (by cases hv : v.ownBlock <;> simp)
theorem mine_base {w : World} {b b' : Nat} {e : TypeId} {s n : Nat} {v : Value} {xs : List Value} (h : w.ownsRow b' e s v n xs) (hb : b ≤ b') : w.ownsRow b e s v n xs := by
  refine ⟨h.1, ?_⟩
  rcases h.2 with h1 | ⟨g, cap, cur, h1, h2, h3⟩
  · exact .inl h1
  · exact .inr ⟨g, cap, cur, h1, Nat.le_trans hb h2, h3⟩
theorem mine_set {w : World} {base g : Nat} {e t : TypeId} {size n : Nat} {v : Value} {xs : List Value} {cs : Array Value} (h : w.ownsRow base e size v n xs) (hb : Blk w g t cs) (hne : e ≠ t) (j : Nat) (u : Value) : (w.setCell ⟨g, j, none⟩ u).ownsRow base e size v n xs :=
  h.kept (row := some g) ⟨rfl, rfl, rfl, by simp, fun k _ hk => Below.heap_setCell _ _ _ _ (fun e => hk (by rw [e]))⟩ (.inr (Ne.symm (own_ne_blk h hb hne)))
theorem mine_other {w w' : World} {b1 b2 : Nat} {e1 e2 : TypeId} {s1 s2 n1 n2 : Nat} {v1 v2 : Value} {x1 x2 : List Value} (h2 : w.ownsRow b2 e2 s2 v2 n2 x2) (h1 : w.ownsRow b1 e1 s1 v1 n1 x1) (hne : e1 ≠ e2) (hg : w.grownBy w' v1.ownBlock) : w'.ownsRow b2 e2 s2 v2 n2 x2 := by
  refine h2.kept hg ?_
  rcases h1.2 with ⟨rfl, _⟩ | ⟨g1, cap, cur, rfl, _, hh, _⟩
  · cases hk : v2.ownBlock <;> simp [Value.ownBlock]
  · have := own_ne_blk h2 (show Blk w g1 e1 cur from hh) (Ne.symm hne)
    exact .inr (Ne.symm this)
theorem RMine.stab (base : Nat) : Stab (RMine base) := fun _ _ _ _ hw ⟨A, n, c, h1, h2⟩ => ⟨A, n, c, h1, mine_ext h2 hw⟩
theorem RMine.set_ {b g : Nat} {w : World} {t : TypeId} {ds : Array Value} {cs : List Value} {r : List V} (h : RMine b w cs r) (hb : Blk w g t ds) (hne : 85 ≠ t) (j : Nat) (u : Value) : RMine b (w.setCell ⟨g, j, none⟩ u) cs r := by
  obtain ⟨A, n, c, h1, h2⟩ := h
  exact ⟨A, n, c, h1, mine_set h2 hb hne j u⟩
/-- rows of the call's own are handed back -/
def RetRows (w0 : World) (rows : List (List V)) (en : Ending) (w' : World) : Prop :=
  ∃ A n c cells, en = .returned (.slice A n c) ∧ n = rows.length ∧ w'.ownsRow w0.heap.size 28 1 (.slice A n c) n cells ∧ Els (RMine w0.heap.size) 1 w' cells rows ∧ Ext w0 w'
theorem infoRw : (Tryz.prog.info? 28).map (fun i => (i.zero, i.size, i.bytes)) = some (some (.slice none 0 0), 1, 24) := by kernel_rfl
/-- a block of rows that is being filled from its head on -/
structure CpR (w0 w : World) (g : Nat) (rows : List (List V)) (n i : Nat) : Prop where
  blk : ∃ cs : List Value, cs.length = i ∧ Blk w g 28 (cs ++ List.replicate (n - i) (Value.slice none 0 0)).toArray ∧ Els (RMine w0.heap.size) 1 w cs (rows.take i)
  ext : Ext w0 w
end Go.Proofs.YtahdiiaadjdmcaaGreat

namespace Go.Proofs.YtahdiiaadjdmcaaGreat
open Go.RowKit

/-- only blocks of S turn, and new ones -/
structure Fr (S : Nat → Prop) (w w' : World) : Prop where
  os : w'.os = w.os
  tape : w'.tape = w.tape
  output : w'.output = w.output
  size : w.heap.size ≤ w'.heap.size
  block : ∀ k, k < w.heap.size → ¬ S k → w'.heap[k]? = w.heap[k]?
section
variable {S T : Nat → Prop} {w w' w'' : World}
theorem Fr.refl (S : Nat → Prop) (w : World) : Fr S w w := ⟨rfl, rfl, rfl, Nat.le_refl _, fun _ _ _ => rfl⟩
theorem Fr.of_ext (h : Ext w w') : Fr S w w' := ⟨Below.os h, Below.tape h, Below.output h, h.size, fun _ h1 _ => h.block h1⟩
theorem Fr.setCell (h : Fr S w w') {p : Addr} (hp : S p.block ∨ w.heap.size ≤ p.block) (u : Value) : Fr S w (w'.setCell p u) :=
  ⟨h.os, h.tape, h.output, by simpa using h.size, fun g h1 h2 => (Below.heap_setCell w' p u g (fun e => by subst e; rcases hp with hp | hp; exact h2 hp; omega)).trans (h.block g h1 h2)⟩
theorem Blk.fr {g : Nat} {t : TypeId} {cs : Array Value} (h : Blk w g t cs) (k : Fr S w w') (hg : ¬ S g) : Blk w' g t cs := (k.block g h.lt hg).trans h
theorem own_fr {base : Nat} {e : TypeId} {s n : Nat} {v : Value} {xs : List Value} (h : w.ownsRow base e s v n xs) (k : Fr S w w') (hS : ∀ g, v.ownBlock = some g → ¬ S g) : w'.ownsRow base e s v n xs := by
  refine ⟨h.1, ?_⟩
  rcases h.2 with h1 | ⟨g, cap, cur, rfl, h2, h3, h4⟩
  · exact .inl h1
  · exact .inr ⟨g, cap, cur, rfl, h2, (k.block g (Blk.lt h3) (hS g rfl)).trans h3, h4⟩
end

/-- .. and rows of rows that were laid since -/
def rowBlk (w : World) (k : Nat) : Prop := ∃ cs f, w.heap[k]? = some (.cells cs 28 f)
structure Fq (S : Nat → Prop) (base : Nat) (w w' : World) : Prop where
  os : w'.os = w.os
  tape : w'.tape = w.tape
  output : w'.output = w.output
  size : w.heap.size ≤ w'.heap.size
  block : ∀ k, k < w.heap.size → ¬ S k → ¬ (base ≤ k ∧ rowBlk w k) → w'.heap[k]? = w.heap[k]?
section
variable {S T : Nat → Prop} {base : Nat} {w w' w'' : World}
theorem Fq.of_fr (h : Fr S w w') : Fq S base w w' := ⟨h.os, h.tape, h.output, h.size, fun k h1 h2 _ => h.block k h1 h2⟩
theorem Fq.of_ext (h : Ext w w') : Fq S base w w' := Fq.of_fr (Fr.of_ext h)
theorem Fq.mono (h : Fq S base w w') (k : ∀ g, S g → T g) : Fq T base w w' := ⟨h.os, h.tape, h.output, h.size, fun g h1 h2 => h.block g h1 fun h3 => h2 (k g h3)⟩
theorem Fq.trans (h : Fq S base w w') (k : Fq S base w' w'') : Fq S base w w'' :=
  ⟨k.os.trans h.os, k.tape.trans h.tape, k.output.trans h.output, Nat.le_trans h.size k.size, fun g h1 h2 h3 => by
    have e := h.block g h1 h2 h3
    refine (k.block g (Nat.lt_of_lt_of_le h1 h.size) h2 fun h4 => h3 ⟨h4.1, ?_⟩).trans e
    obtain ⟨cs, f, h5⟩ := h4.2
    exact ⟨cs, f, by rw [← e]; exact h5⟩⟩
theorem Blk.fq {g : Nat} {t : TypeId} {cs : Array Value} (h : Blk w g t cs) (k : Fq S base w w') (hg : ¬ S g) (hb : g < base ∨ t ≠ 28) : Blk w' g t cs :=
  (k.block g h.lt hg fun h3 => by
    rcases hb with hb | hb
    · have := h3.1; omega
    · obtain ⟨cs', f, h5⟩ := h3.2
      have h6 : w.heap[g]? = some _ := h
      rw [h6] at h5
      injection h5 with h5
      injection h5 with _ h5
      exact hb h5).trans h
theorem own_fq {b : Nat} {e : TypeId} {s n : Nat} {v : Value} {xs : List Value} (h : w.ownsRow b e s v n xs) (k : Fq S base w w') (hS : ∀ g, v.ownBlock = some g → ¬ S g) (he : e ≠ 28) : w'.ownsRow b e s v n xs := by
  refine ⟨h.1, ?_⟩
  rcases h.2 with h1 | ⟨g, cap, cur, rfl, h2, h3, h4⟩
  · exact .inl h1
  · exact .inr ⟨g, cap, cur, rfl, h2, Blk.fq h3 k (hS g rfl) (.inr he), h4⟩
end

section
variable {S : Nat → Prop} {base : Nat} {w w' : World} {l : Nat} {o : Obj}
theorem Fq.putObj (h : Fq S base w w') (hl : S l) : Fq S base w (w'.putObj l o) :=
  ⟨h.os, h.tape, h.output, by simpa using h.size, fun g h1 h2 h3 => (World.putObj_heap_other (fun e => by subst e; exact h2 hl)).trans (h.block g h1 h2 h3)⟩
theorem Blk.putObj {g : Nat} {t : TypeId} {cs : Array Value} (h : Blk w g t cs) (hne : g ≠ l) : Blk (w.putObj l o) g t cs := (World.putObj_heap_other hne).trans h
theorem own_putObj {b : Nat} {e : TypeId} {s n : Nat} {v : Value} {xs : List Value} (h : w.ownsRow b e s v n xs) (hl : ∀ g, v.ownBlock = some g → g ≠ l) : (w.putObj l o).ownsRow b e s v n xs := by
  refine ⟨h.1, ?_⟩
  rcases h.2 with h1 | ⟨g, cap, cur, rfl, h2, h3, h4⟩
  · exact .inl h1
  · exact .inr ⟨g, cap, cur, rfl, h2, Blk.putObj h3 (hl g rfl), h4⟩
end

/-- how a round's body is left -/
def roundQ (l : Nat) (r : Loop) (R : Ending → World → Prop) : Exit → Act → World → Prop
  | .normal, _, W => W.heap[l]? = some (.loop { r with state := .busy }) ∧ R (.returned (.bool true)) (W.putObj l (.loop r))
  | .ret, _, W => W.heap[l]? = some (.loop { r with state := .busy }) ∧ R (.returned (.bool false)) (W.putObj l (.loop { r with state := .done, pending := some .ret }))
  | .exit id, _, W => W.heap[l]? = some (.loop { r with state := .busy }) ∧ R (.returned (.bool false)) (W.putObj l (.loop { r with state := .done, pending := some (.exit id) }))
  | _, _, _ => False
/-- one round -/
theorem range_round {F : Fence} {n l : Nat} {P : Program} {r : Loop} {W : World} {x : Value} {R : Ending → World → Prop} (hl : W.heap[l]? = some (.loop r)) (hr : r.state = .ready) (hp : r.pending = none) (hps : r.params.size = 1) (hF : F.fn r.fn)
    (h : r.assign.wpIn (F.inRound l) n P (Exit.then (fun a₁ w₁ => w₁.heap[l]? = some (.loop r) ∧ r.body.wpIn (F.inRound l) n P (roundQ l r R) a₁ (w₁.putObj l (.loop { r with state := .busy }))) (fun _ _ _ => False))
      { tmps := (r.params.zip #[x]).foldl (fun tmps (t, a) => tmps.setIfInBounds t a) r.tmps, defers := [] } W) :
    ∃ fn tmps assign body, (Instr.yield l #[x]).run P W = .ok (.round l fn tmps assign body) W ∧ RoundIn F n P l fn tmps assign body W R := by
  have hrr : ({ r with state := .ready, pending := none } : Loop) = r := by
    obtain ⟨a, b⟩ := r
    simp only at hr hp
    subst hr hp
    rfl
  refine ⟨r.fn, _, r.assign, r.body, run_yield hl (by simp [hps]), roundIn_of_wpIn hF (wpIn_mono h ?_)⟩
  intro e a₁ w₁ hq
  cases e with
  | normal =>
    obtain ⟨hl1, hb⟩ := hq
    refine ⟨_, run_beginRound hl1 hr, wpIn_mono hb ?_⟩
    intro e a₂ w₂ hq
    cases e with
    | normal => exact ⟨_, _, run_endRound none hq.1, by simpa [hrr] using hq.2⟩
    | ret => exact ⟨_, _, run_endRound (some .ret) hq.1, hq.2⟩
    | exit id => exact ⟨_, _, run_endRound (some (.exit id)) hq.1, hq.2⟩
    | goto t => exact hq.elim
    | panic c => exact hq.elim
    | outgrown => exact hq.elim
  | ret => exact hq.elim
  | exit id => exact hq.elim
  | goto t => exact hq.elim
  | panic c => exact hq.elim
  | outgrown => exact hq.elim

/-- the record of a range over a function -/
def recOf (fn : FuncId) (tmps : Array Value) (ps : Array Tmp) (assign body : Code) (d : Nat) : Loop := { state := .ready, pending := none, fn, tmps, params := ps, assign, body, defers := d }
/-- the statement -/
theorem wp_range {n : Nat} {P : Program} {g : Operand} {ps : Array Tmp} {assign body : Code} {Q : Exit → Act → World → Prop} {a : Act} {w : World} {gf : Nat} {lb : Array Value} (hg : a.eval g = .func (.func gf) #[] lb) (eg : Enters P gf)
    (h : ∀ fn, CallsIn Fence.wide (n - 1) P gf (#[.func (.yield (w.heap.size + 1)) #[] #[]] ++ lb) ((w.alloc (.deferred (some []))).alloc (.loop (recOf fn a.tmps ps assign body w.heap.size)))
      (rangePost Fence.wide n P (w.heap.size + 1) Q { a with defers := [{ target := .collected w.heap.size, args := #[] }] ++ a.defers })) :
    (Code.rangeFunc g ps assign body).wpIn Fence.wide n P Q a w := by
  refine wpIn_rangeFunc ?_
  intro fn hfn
  have h2 := h fn
  have e2 := eg (#[.func (.yield (w.heap.size + 1)) #[] #[]] ++ lb)
  have h1 := run_enterLoop_outer (P := P) (w := w) fn a.tmps ps assign body
  generalize hW : (w.alloc (.deferred (some []))).alloc (.loop (recOf fn a.tmps ps assign body w.heap.size)) = W1 at h2
  have hW' : (w.alloc (.deferred (some []))).alloc (.loop { state := .ready, pending := none, fn, tmps := a.tmps, params := ps, assign, body, defers := w.heap.size }) = W1 := hW
  rw [hW'] at h1
  have k1 : (resolve a.eval (rangeCall g (w.heap.size + 1)) 0).run P W1 = .ok { target := .fn (.func gf) lb, args := #[.func (.yield (w.heap.size + 1)) #[] #[]] } W1 := by
    simp only [resolve, hg]
    simp [go_sem]
  have k2 : (invoke (.fn (.func gf) lb) #[.func (.yield (w.heap.size + 1)) #[] #[]]).run P W1 = .ok (.enter gf (#[.func (.yield (w.heap.size + 1)) #[] #[]] ++ lb)) W1 := by
    simp [invoke, go_sem, e2]
  have h1' : (Instr.enterLoop fn a.tmps ps assign body Fence.wide.round).run P w = .ok (w.heap.size + 1, [{ target := .collected w.heap.size, args := #[] }]) W1 := h1
  have k3 : Fence.wide.depth.isSome = true → 1 ≤ n := fun h => absurd h (by simp [Fence.wide])
  refine ⟨w.heap.size + 1, [{ target := .collected w.heap.size, args := #[] }], W1, { target := .fn (.func gf) lb, args := #[.func (.yield (w.heap.size + 1)) #[] #[]] }, W1, gf,
    #[.func (.yield (w.heap.size + 1)) #[] #[]] ++ lb, W1, ?_, ?_, ?_, ?_, ?_, ?_⟩
  · exact h1'
  · exact k1
  · exact fun _ _ => trivial
  · exact k2
  · exact k3
  · exact h2
theorem range_ended {n l : Nat} {P : Program} {Q : Exit → Act → World → Prop} {a' : Act} {v : Value} {W : World} {r : Loop} (hl : W.heap[l]? = some (.loop r)) (hb : r.state ≠ .busy)
    (h : match r.pending with | none => Q .normal a' (W.putObj l (.loop { r with state := .exhausted })) | some c => c.wpIn Fence.wide n P Q a' (W.putObj l (.loop { r with state := .exhausted }))) :
    rangePost Fence.wide n P l Q a' (.returned v) W := ⟨_, _, run_endLoop hl hb, h⟩

theorem rec_laid (w : World) (r : Loop) : ((w.alloc (.deferred (some []))).alloc (.loop r)).heap[w.heap.size + 1]? = some (.loop r) ∧ ((w.alloc (.deferred (some []))).alloc (.loop r)).heap[w.heap.size]? = some (.deferred (some [])) ∧
    Ext w ((w.alloc (.deferred (some []))).alloc (.loop r)) ∧ ((w.alloc (.deferred (some []))).alloc (.loop r)).heap.size = w.heap.size + 2 := by
  refine ⟨?_, ?_, (Ext.alloc _ _).alloc' _, by rw [World.size_alloc, World.size_alloc]⟩
  · have := World.alloc_heap_new (w.alloc (.deferred (some []))) (.loop r)
    rwa [World.size_alloc] at this
  · exact (Below.heap_alloc _ _ _ (by simp)).trans (World.alloc_heap_new w _)
/-- rows of values of the call's own -/
def MineV (b : Nat) (w : World) (A : Option Addr) (n c : Nat) (rows : List (List V)) : Prop := ∃ cells, n = rows.length ∧ w.ownsRow b 28 1 (.slice A n c) n cells ∧ Els (RMine b) 1 w cells rows
theorem RMine.fr {S : Nat → Prop} {b : Nat} {w w' : World} {cs : List Value} {r : List V} (h : RMine b w cs r) (hF : Fr S w w') (hS : ∀ g, S g → g < b) : RMine b w' cs r := by
  obtain ⟨A, n, c, h1, h2⟩ := h
  exact ⟨A, n, c, h1, own_fr h2 hF fun g hg hs => by have := (h2.lt g hg).1; have := hS g hs; omega⟩
theorem Fq.of_grown {S : Nat → Prop} {base : Nat} {w w' : World} {v : Value} {n : Nat} {xs : List Value} (h : w.ownsRow base 28 1 v n xs) (hg : w.grownBy w' v.ownBlock) : Fq S base w w' :=
  ⟨hg.os, hg.tape, hg.output, hg.size, fun k h1 _ h3 => hg.block k h1 fun e => h3 (by
    rcases h.2 with ⟨rfl, _⟩ | ⟨g, cap, cur, rfl, h4, h5, _⟩
    · simp [Value.ownBlock] at e
    · have e2 : k = g := by simpa [Value.ownBlock] using e
      subst e2
      exact ⟨h4, _, _, h5⟩)⟩
theorem RMine.other {b b1 : Nat} {e1 : TypeId} {s1 n1 : Nat} {v1 : Value} {x1 : List Value} {w w' : World} {cs : List Value} {r : List V} (h : RMine b w cs r) (h1 : w.ownsRow b1 e1 s1 v1 n1 x1) (hne : e1 ≠ 85) (hg : w.grownBy w' v1.ownBlock) : RMine b w' cs r := by
  obtain ⟨A, n, c, h2, h3⟩ := h
  exact ⟨A, n, c, h2, mine_other h3 h1 hne hg⟩
end Go.Proofs.YtahdiiaadjdmcaaGreat
