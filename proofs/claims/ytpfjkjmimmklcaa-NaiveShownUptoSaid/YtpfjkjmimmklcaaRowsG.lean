/-
  Project: the program's and the document's; a list of numbers in new memory.
  Lists of rows: are they the same; a copy of them.
  slices.Clone: the same cells in a row of its own.
-/
import Derived.Test.YtpfjkjmimmklcaaRefB
import Derived.Test.YtpfjkjmimmklcaaGround
import Derived.Lib.SliceRun
namespace Go.Proofs.Ytpfjkjmimmklcaa
open Go.RowKit

/-- n numbers lie at A -/
def NumAt (w : World) (A : Option Addr) (n : Nat) (xs : List Int) : Prop := n = xs.length ∧ Sl w A n 1 (xs.map (Value.int .i64))
theorem NumAt.ext {w w' : World} {A : Option Addr} {n : Nat} {xs : List Int} (h : NumAt w A n xs) (hw : Ext w w') : NumAt w' A n xs := ⟨h.1, h.2.ext hw⟩
theorem NumAt.len {w : World} {A : Option Addr} {n : Nat} {xs : List Int} (h : NumAt w A n xs) : n = xs.length := h.1
theorem NumAt.get {w : World} {A : Option Addr} {n : Nat} {xs : List Int} (h : NumAt w A n xs) {i : Nat} (hi : i < n) : ∃ b off x, A = some ⟨b, off, none⟩ ∧ xs[i]? = some x ∧ b < w.heap.size ∧ w.cell? ⟨b, off + i, none⟩ = some (.int .i64 x) := by
  obtain ⟨b, off, hA, hc⟩ := h.2.2 (by omega)
  have hl : i < xs.length := by have := h.1; omega
  have hc := hc i (.int .i64 xs[i]) (by simp [List.getElem?_eq_getElem hl])
  exact ⟨b, off, xs[i], hA, List.getElem?_eq_getElem hl, World.block_lt_of_cell? w _ hc, hc⟩
theorem NumAt.own {w : World} {base : Nat} {e : TypeId} {n c : Nat} {A : Option Addr} {xs : List Int} (h : w.ownsRow base e 1 (.slice A n c) n (xs.map (Value.int .i64))) : NumAt w A n xs := by
  have hs := Sl.own h
  refine ⟨?_, hs⟩
  have := hs.1
  rw [List.length_map] at this
  omega
theorem nums_one (xs : List Int) : OneCells (xs.map (Value.int .i64)) := fun v hv => by
  obtain ⟨x, _, rfl⟩ := List.mem_map.1 hv
  rfl
/-- the numbers are numbers of 64 bits -/
def wfI (xs : List Int) : Prop := ∀ x ∈ xs, -9223372036854775808 ≤ x ∧ x ≤ 9223372036854775807

theorem infoI : (Try.prog.info? 3).map (fun i => (i.zero, i.size, i.bytes)) = some (some (.int .i64 0), 1, 8) := by kernel_rfl
theorem sizeI : (Try.prog.info? 3).map (·.size) = some 1 := by kernel_rfl

set_option maxRecDepth 100000 in
theorem ints_any (xs : List Int) (A : Option Addr) (n c : Nat) (w : World) (ha : NumAt w A n xs) (hn : n ≤ 16777216) :
    Calls Try.prog 110 #[.slice A n c] w (RetOwn w 3 1 n (xs.map (Value.int .i64))) := by
  obtain ⟨i0, hi0, hz0, hz1, hz2⟩ := info_parts infoI
  have hmk := run_make_n (P := Try.prog) 100 3 i0 _ Try.underlying100 hi0 hz0 (by omega) .i64 .i64 n hn
  simp only [hz1] at hmk
  have Ha := hide ha; clear ha hz1 hz2 hz0 hi0
  have HC := hide (fun (i : Nat) (h : i = n * 1) => by
    have : (Value.int .i64 0).cells = #[.int .i64 0] := rfl
    exact this)
  clear HC
  go_enter Try.func110, Try.ntmps110
  go_wp2_with (refine wpList_copy_sl rfl (.tmp 7) (.tmp 8) 100 100 rfl 3 1 Try.underlying100 sizeI A w.heap.size 0 n n n c rfl rfl _ 3 (heap_alloc_new w _) (xs.map (Value.int .i64)) (Ha.out.ext (Ext.alloc w _)).2 (Nat.le_refl _) (by rw [size_madeCells, Nat.zero_add, Ha.out.2.1]; omega) (nums_one xs) w (Ext.alloc w _) (Nat.le_refl _) ?_; intro w1 hg1 hE1 hs1)
  go_ret
  refine ⟨_, _, rfl, ?_, hE1.out⟩
  have hl := Ha.out.2.1
  have hg := hg1.out
  rw [splice_all (by rw [Array.length_toList, size_madeCells]; omega)] at hg
  refine ⟨hl, .inr ⟨w.heap.size, n, _, rfl, Nat.le_refl _, hg, Nat.le_refl _, by unfold maxLen; omega, by simpa using hl, ?_⟩⟩
  exact List.take_of_length_le (Nat.le_of_eq hl)

def projGo (r : List V) : List Int → Option (List V)
  | [] => some []
  | c :: cols => if c < 0 ∨ (r.length : Int) ≤ c then none else (r[c.toNat]?).bind fun v => (projGo r cols).map (v :: ·)
def projR (r : List V) (cols : List Int) : List V × Int :=
  if 30 < cols.length then ([], 20) else match projGo r cols with
    | some l => (l, 0)
    | none => ([], 23)
theorem projGo_bad (r : List V) : ∀ (cols : List Int) (i : Nat) (c : Int), cols[i]? = some c → (c < 0 ∨ (r.length : Int) ≤ c) → projGo r cols = none
  | [], i, c, h, _ => by simp at h
  | x :: cols, 0, c, h, hc => by
    obtain rfl : x = c := by simpa using h
    simp [projGo, hc]
  | x :: cols, i + 1, c, h, hc => by
    have := projGo_bad r cols i c (by simpa using h) hc
    simp only [projGo, this]
    split
    · rfl
    · cases r[x.toNat]? <;> rfl
theorem projGo_snoc (r : List V) (c : Int) (v : V) (hc : ¬ (c < 0 ∨ (r.length : Int) ≤ c)) (hv : r[c.toNat]? = some v) : ∀ (cols : List Int) (l : List V), projGo r cols = some l → projGo r (cols ++ [c]) = some (l ++ [v])
  | [], l, h => by
    obtain rfl : [] = l := by simpa [projGo] using h
    simp [projGo, hc, hv]
  | x :: cols, l, h => by
    simp only [projGo, List.cons_append] at h ⊢
    split at h
    · cases h
    · rename_i hx
      rw [if_neg hx]
      cases hy : r[x.toNat]? with
      | none => rw [hy] at h; cases h
      | some y =>
        rw [hy] at h
        simp only [Option.bind_some, Option.map_eq_some_iff] at h ⊢
        obtain ⟨l', hl', rfl⟩ := h
        exact ⟨l' ++ [v], projGo_snoc r c v hc hv cols l' hl', rfl⟩
theorem projGo_len (r : List V) : ∀ (cols : List Int) (l : List V), projGo r cols = some l → l.length = cols.length
  | [], l, h => by
    obtain rfl : [] = l := by simpa [projGo] using h
    rfl
  | x :: cols, l, h => by
    simp only [projGo] at h
    split at h
    · cases h
    · cases hy : r[x.toNat]? with
      | none => rw [hy] at h; cases h
      | some y =>
        rw [hy] at h
        simp only [Option.bind_some, Option.map_eq_some_iff] at h
        obtain ⟨l', hl', rfl⟩ := h
        simp [projGo_len r cols l' hl']
theorem take_snoc' {α : Type} (xs : List α) (i : Nat) (x : α) (h : xs[i]? = some x) : xs.take (i + 1) = xs.take i ++ [x] := by
  rw [List.take_add_one, h]; rfl

/-- a row of the call's own and an error's number -/
def RetRowErr (w0 : World) (e : TypeId) (res : List V × Int) (en : Ending) (w' : World) : Prop :=
  ∃ A c, en = .returned (.tuple #[.slice A res.1.length c, .int .i64 res.2]) ∧ w'.ownsRow w0.heap.size e 3 (.slice A res.1.length c) res.1.length (cellsR res.1) ∧ Ext w0 w'
theorem ownsNil (w : World) (base : Nat) (e : TypeId) : w.ownsRow base e 3 (.slice none 0 0) 0 (cellsR []) := World.ownsRow_nil w base e 3

end Go.Proofs.Ytpfjkjmimmklcaa

namespace Go.Proofs.Ytpfjkjmimmklcaa
open Go.RowKit

def sameRs : List (List V) → List (List V) → Bool
  | [], [] => true
  | [], _ :: _ => false
  | _ :: _, [] => false
  | a :: l, b :: m => sameR a b && sameRs l m
theorem sameRs_iff : ∀ {r s : List (List V)}, sameRs r s = true ↔ r = s
  | [], [] => by simp [sameRs]
  | [], _ :: _ => by simp [sameRs]
  | _ :: _, [] => by simp [sameRs]
  | a :: r, b :: s => by simp [sameRs, sameR_iff, sameRs_iff]
theorem sameRs_len {r s : List (List V)} (h : r.length ≠ s.length) : sameRs r s = false := by
  cases he : sameRs r s with
  | false => rfl
  | true => exact absurd (congrArg List.length (sameRs_iff.1 he)) h
theorem sameRs_drop (r s : List (List V)) (k : Nat) (a b : List V) (ha : r[k]? = some a) (hb : s[k]? = some b) : sameRs (r.drop k) (s.drop k) = (sameR a b && sameRs (r.drop (k + 1)) (s.drop (k + 1))) := by
  rw [List.getElem?_eq_some_iff] at ha hb
  obtain ⟨ha, ea⟩ := ha
  obtain ⟨hb, eb⟩ := hb
  rw [List.drop_eq_getElem_cons ha, List.drop_eq_getElem_cons hb, ea, eb]; rfl
theorem LAt.row_ {w : World} {A : Option Addr} {n : Nat} {xs : List (List V)} (h : LAt RRow 1 w A n xs) {i : Nat} (hi : i < n) :
    ∃ b off r A9 n9 c9, A = some ⟨b, off, none⟩ ∧ xs[i]? = some r ∧ b < w.heap.size ∧ w.cell? ⟨b, off + i, none⟩ = some (.slice A9 n9 c9) ∧ RowAt w A9 n9 r := by
  obtain ⟨b, off, r, cs, hA, hx, hb1, _, _, ⟨A9, n9, c9, rfl, hR⟩, hcell⟩ := h.get (by omega) hi
  have := hcell 0 (by omega)
  rw [Nat.mul_one, Nat.add_zero] at this
  exact ⟨b, off, r, A9, n9, c9, hA, hx, hb1, this, hR⟩

set_option maxRecDepth 100000 in
theorem same_all (xs ys : List (List V)) (A B : Option Addr) (n m c d : Nat) (w : World) (ha : LAt RRow 1 w A n xs) (hb : LAt RRow 1 w B m ys) (hn : n ≤ 140737488355328) (hr : ∀ r ∈ xs, r.length ≤ 140737488355328) :
    Calls Try.prog 20 #[.slice A n c, .slice B m d] w fun e w' => e = .returned (.bool (sameRs xs ys)) ∧ Ext w w' := by
  have Ha := hide ha; have Hb := hide hb; have Hr := hide hr; clear ha hb hr
  by_cases hl : n = m
  · subst hl
    have hne : ((n : Int) != (n : Int)) = false := by simp
    go_enter Try.func20, Try.ntmps20
    go_wp2
    go_loopw [4, 5] (fun _ k w' => ∃ i : Nat, i ≤ n ∧ k = .int .i64 i ∧ Hid (sameRs xs ys = sameRs (xs.drop i) (ys.drop i)) ∧ Hid (Ext w w')) (fun _ k _ => n - (intOf k).toNat)
    case atStart => exact ⟨0, by omega, rfl, rfl, Ext.refl _⟩
    case round =>
      obtain ⟨i, hin, rfl, ho, hw⟩ := hrel
      by_cases h : i < n
      · obtain ⟨b, off, x, A1, n1, c1, rfl, hx, hb1, d0, hR1⟩ := (Ha.out.ext RRow.stab hw.out).row_ h
        obtain ⟨b', off', y, A2, n2, c2, rfl, hy, hb2, d1, hR2⟩ := (Hb.out.ext RRow.stab hw.out).row_ h
        have hd := hide (sameRs_drop xs ys i x y hx hy)
        have hxl : n1 ≤ 140737488355328 := by have := Hr.out x (List.mem_of_getElem? hx); have := hR1.len; omega
        have HS := hide (fun w1 (h1 : Ext wr w1) => same_any x y A1 A2 n1 n2 c1 c2 w1 (hR1.ext h1) (hR2.ext h1) hxl)
        have d0 := cell_ext d0
        have d1 := cell_ext d1
        clear hx hy hR1 hR2 hb1 hb2
        go_wp2_with fail
        refine wp_region_ext 10 (by kernel_rfl) (by kernel_rfl) (by kernel_rfl) ?_
        iterate 10
          refine wpE_k (by kernel_rfl) (by kernel_rfl) ?_
          apply Exists.intro
          refine ⟨fun w1 hw1 => ?_, fun K hK => ?_⟩
          · go_simp; first | done | rfl | exact HS.out w1 hw1
          go_simp; refine hK _ _ ?_; clear hK K
        refine wpE_nil ⟨rfl, by kernel_rfl, fun w1 hw1 => ?_⟩
        simp only [EndQ]
        refine wpList_nil ?_
        clear d0 d1
        have HF := hide (hw.out.trans hw1); clear hw1
        by_cases he : sameR x y = true
        · have he1 : (!sameR x y) = false := by rw [he]; rfl
          simp only [he1]
          have He := hide he; clear he he1
          go_wp2_with fail
          go_roundw
          case rel => exact ⟨i + 1, by omega, by go_num, by rw [Hid, ho.out, hd.out, He.out]; simp, HF.out⟩
          case measure => simp [intOf]; omega
        · have he2 : sameR x y = false := by simpa using he
          have he1 : (!sameR x y) = true := by rw [he2]; rfl
          simp only [he1]
          have He := hide he2; clear he he2 he1
          go_wp2_with fail
          go_ret
          exact ⟨ret_bool (by rw [ho.out, hd.out, He.out]; simp), HF.out⟩
      · have hlen := hide (And.intro Ha.out.len Hb.out.len)
        go_wp2_with fail
        go_ret
        exact ⟨ret_bool (by rw [ho.out, List.drop_of_length_le (by have := hlen.out; omega), List.drop_of_length_le (by have := hlen.out; omega)]; rfl), hw.out⟩
  · have hne : ((n : Int) != (m : Int)) = true := by simp; omega
    have hs := hide (sameRs_len (r := xs) (s := ys) (by have := Ha.out.len; have := Hb.out.len; omega))
    go_enter Try.func20, Try.ntmps20
    go_wp2
    go_ret
    exact ⟨ret_bool hs.out.symm, Ext.refl _⟩

/-- a row of the call's own -/
def RMine (base : Nat) : World → List Value → List V → Prop := fun w cs r => ∃ A n c, cs = [.slice A n c] ∧ w.ownsRow base 58 3 (.slice A n c) n (cellsR r)
theorem RMine.row {base : Nat} {w : World} {cs : List Value} {r : List V} (h : RMine base w cs r) : RRow w cs r := by
  obtain ⟨A, n, c, h1, h2⟩ := h
  exact ⟨A, n, c, h1, RowAt.own h2⟩
theorem mine_ext {w w' : World} {base : Nat} {e : TypeId} {s n : Nat} {v : Value} {xs : List Value} (h : w.ownsRow base e s v n xs) (hw : Ext w w') : w'.ownsRow base e s v n xs :=
  h.kept (row := none) ⟨Below.os hw, Below.tape hw, Below.output hw, hw.size, fun _ hk _ => hw.block hk⟩ (by cases hv : v.ownBlock <;> simp)
theorem mine_base {w : World} {b b' : Nat} {e : TypeId} {s n : Nat} {v : Value} {xs : List Value} (h : w.ownsRow b' e s v n xs) (hb : b ≤ b') : w.ownsRow b e s v n xs := by
  refine ⟨h.1, ?_⟩
  rcases h.2 with h1 | ⟨g, cap, cur, h1, h2, h3⟩
  · exact .inl h1
  · exact .inr ⟨g, cap, cur, h1, Nat.le_trans hb h2, h3⟩
theorem mine_set {w : World} {base g : Nat} {e t : TypeId} {size n : Nat} {v : Value} {xs : List Value} {cs : Array Value} (h : w.ownsRow base e size v n xs) (hb : Blk w g t cs) (hne : e ≠ t) (j : Nat) (u : Value) : (w.setCell ⟨g, j, none⟩ u).ownsRow base e size v n xs :=
  h.kept (row := some g) ⟨rfl, rfl, rfl, by simp, fun k _ hk => Below.heap_setCell _ _ _ _ (fun e => hk (by rw [e]))⟩ (.inr (Ne.symm (own_ne_blk h hb hne)))
theorem mine_other {w w' : World} {b1 b2 : Nat} {e1 e2 : TypeId} {s1 s2 n1 n2 : Nat} {v1 v2 : Value} {x1 x2 : List Value} (h2 : w.ownsRow b2 e2 s2 v2 n2 x2) (h1 : w.ownsRow b1 e1 s1 v1 n1 x1) (hne : e1 ≠ e2) (hg : w.grownBy w' v1.ownBlock) : w'.ownsRow b2 e2 s2 v2 n2 x2 := by
  refine h2.kept hg ?_
  rcases h1.2 with ⟨rfl, _⟩ | ⟨g1, cap, cur, rfl, _, hh, _⟩
  · cases hk : v2.ownBlock <;> simp [Value.ownBlock]
  · have := own_ne_blk h2 (show Blk w g1 e1 cur from hh) (Ne.symm hne)
    exact .inr (Ne.symm this)
theorem RMine.stab (base : Nat) : Stab (RMine base) := fun _ _ _ _ hw ⟨A, n, c, h1, h2⟩ => ⟨A, n, c, h1, mine_ext h2 hw⟩
theorem RMine.base {b b' : Nat} {w : World} {cs : List Value} {r : List V} (h : RMine b' w cs r) (hb : b ≤ b') : RMine b w cs r := by
  obtain ⟨A, n, c, h1, h2⟩ := h
  exact ⟨A, n, c, h1, mine_base h2 hb⟩
theorem RMine.set_ {b g : Nat} {w : World} {t : TypeId} {ds : Array Value} {cs : List Value} {r : List V} (h : RMine b w cs r) (hb : Blk w g t ds) (hne : 58 ≠ t) (j : Nat) (u : Value) : RMine b (w.setCell ⟨g, j, none⟩ u) cs r := by
  obtain ⟨A, n, c, h1, h2⟩ := h
  exact ⟨A, n, c, h1, mine_set h2 hb hne j u⟩
/-- rows of the call's own are handed back -/
def RetRows (w0 : World) (rows : List (List V)) (en : Ending) (w' : World) : Prop :=
  ∃ A n c cells, en = .returned (.slice A n c) ∧ n = rows.length ∧ w'.ownsRow w0.heap.size 35 1 (.slice A n c) n cells ∧ Els (RMine w0.heap.size) 1 w' cells rows ∧ Ext w0 w'
theorem mine_lat {base : Nat} {w : World} {A : Option Addr} {n c : Nat} {cells : List Value} {rows : List (List V)} (hn : n = rows.length) (ho : w.ownsRow base 35 1 (.slice A n c) n cells) (he : Els (RMine base) 1 w cells rows) : LAt RRow 1 w A n rows :=
  LAt.own hn (he.mono fun _ _ h => h.row) ho
theorem infoRw : (Try.prog.info? 35).map (fun i => (i.zero, i.size, i.bytes)) = some (some (.slice none 0 0), 1, 24) := by kernel_rfl
theorem sizeRw : (Try.prog.info? 35).map (·.size) = some 1 := by kernel_rfl

/-- a block of rows that is being filled from its head on -/
structure CpR (w0 w : World) (g : Nat) (rows : List (List V)) (n i : Nat) : Prop where
  blk : ∃ cs : List Value, cs.length = i ∧ Blk w g 35 (cs ++ List.replicate (n - i) (Value.slice none 0 0)).toArray ∧ Els (RMine w0.heap.size) 1 w cs (rows.take i)
  ext : Ext w0 w
theorem CpR.go {w0 w w' : World} {g n i : Nat} {rows : List (List V)} (h : CpR w0 w g rows n i) (hw : Ext w w') : CpR w0 w' g rows n i := by
  obtain ⟨cs, h1, h2, h3⟩ := h.blk
  exact ⟨⟨cs, h1, h2.ext hw, h3.ext (RMine.stab _) hw⟩, h.ext.trans hw⟩
theorem CpR.at_ {w0 w : World} {g n i : Nat} {rows : List (List V)} (h : CpR w0 w g rows n i) (hi : i < n) : w.cell? ⟨g, i, none⟩ = some (.slice none 0 0) ∧ w.frozen? ⟨g, i, none⟩ = false := by
  obtain ⟨cs, h1, h2, _⟩ := h.blk
  refine ⟨?_, h2.frozen i⟩
  rw [h2.cell i]
  subst h1
  rw [show n - cs.length = (n - cs.length - 1) + 1 by omega, List.replicate_succ]
  simp
theorem CpR.put {w0 w : World} {g n i : Nat} {rows : List (List V)} {r : List V} {A : Option Addr} {k c : Nat} (h : CpR w0 w g rows n i) (hi : i < n) (hr : rows[i]? = some r) (hg : w0.heap.size ≤ g) (ho : w.ownsRow w0.heap.size 58 3 (.slice A k c) k (cellsR r)) :
    CpR w0 (w.setCell ⟨g, i, none⟩ (.slice A k c)) g rows n (i + 1) := by
  obtain ⟨cs, h1, h2, h3⟩ := h.blk
  have e : rows.take (i + 1) = rows.take i ++ [r] := by rw [List.take_add_one, hr]; rfl
  refine ⟨⟨cs ++ [.slice A k c], by simp [h1], ?_, ?_⟩, h.ext.setCell (p := ⟨g, i, none⟩) hg _⟩
  · have h5 := h2.set_ i (.slice A k c)
    rw [List.setIfInBounds_toArray] at h5
    subst h1
    rw [show n - cs.length = (n - (cs.length + 1)) + 1 by omega, List.replicate_succ] at h5
    simpa using h5
  · rw [e]
    refine Els.snoc (h3.mono fun c' x hx => hx.set_ h2 (by decide) _ _) rfl (fun v hv => by obtain rfl := List.mem_singleton.1 hv; rfl) ⟨A, k, c, rfl, mine_set ho h2 (by decide) _ _⟩
theorem CpR.done {w0 w : World} {g n : Nat} {rows : List (List V)} (h : CpR w0 w g rows n n) (hn : n = rows.length) (hm : n ≤ maxLen) (hg : w0.heap.size ≤ g) : RetRows w0 rows (.returned (.slice (some ⟨g, 0, none⟩) n n)) w := by
  obtain ⟨cs, h1, h2, h3⟩ := h.blk
  rw [Nat.sub_self] at h2
  simp only [List.replicate_zero, List.append_nil] at h2
  rw [List.take_of_length_le (by omega)] at h3
  exact ⟨_, _, _, cs, rfl, hn, ⟨by omega, .inr ⟨g, n, _, rfl, hg, h2, Nat.le_refl _, hm, by simp [h1], List.take_of_length_le (by simp [h1])⟩⟩, h3, h.ext⟩

set_option maxRecDepth 100000 in
theorem copy_all (rows : List (List V)) (A : Option Addr) (n c : Nat) (w : World) (ha : LAt RRow 1 w A n rows) (hn : n ≤ 16777216) (hr : ∀ r ∈ rows, r.length ≤ 16777216) :
    Calls Try.prog 23 #[.slice A n c] w (RetRows w rows) := by
  obtain ⟨i0, hi0, hz0, hz1, hz2⟩ := info_parts infoRw
  have hmk := run_make_n (P := Try.prog) 27 35 i0 _ Try.underlying27 hi0 hz0 (by omega) .i64 .i64 n hn
  simp only [hz1] at hmk
  have Ha := hide ha; have Hr := hide hr; have Hl := hide ha.len
  clear ha hr hz1 hz2 hz0 hi0
  have HE := hide (Ext.alloc w (.cells (madeCells #[Value.slice none 0 0] n) 35))
  have HI0 := hide (show CpR w (w.alloc (.cells (madeCells #[Value.slice none 0 0] n) 35)) w.heap.size rows n 0 from by
    refine ⟨⟨[], rfl, ?_, by simpa using Els.nil⟩, Ext.alloc _ _⟩
    have h := Blk.new w 35 (madeCells #[Value.slice none 0 0] n)
    have e : (([] : List Value) ++ List.replicate (n - 0) (Value.slice none 0 0)).toArray = madeCells #[Value.slice none 0 0] n := by
      apply Array.toList_inj.1
      simpa using (toList_madeCells_one (Value.slice none 0 0) n).symm
    rw [e]
    exact h)
  go_enter Try.func23, Try.ntmps23
  go_wp2_with fail
  generalize hW : w.alloc (.cells (madeCells #[Value.slice none 0 0] n) 35) = W1 at *
  clear hW
  go_loopw [4] (fun s4 w' => ∃ i : Nat, i ≤ n ∧ s4 = .int .i64 i ∧ Hid (CpR w w' w.heap.size rows n i)) (fun s4 _ => n - (intOf s4).toNat)
  case atStart => exact ⟨0, by omega, rfl, HI0.out⟩
  case round =>
    obtain ⟨i, hin, rfl, hI⟩ := hrel
    by_cases h : i < n
    · obtain ⟨b, off, r, A9, n9, c9, rfl, hx, hb1, d0, hR⟩ := (Ha.out.ext RRow.stab hI.out.ext).row_ h
      have HCP := hide (copy_any r A9 n9 c9 wr hR (by have := Hr.out r (List.mem_of_getElem? hx); have := hR.len; omega))
      have Hx := hide hx
      have HH := hide h
      clear hx hb1 hR
      go_wp2_with ((with_reducible refine HCP.out.mono ?_); rintro e w5 ⟨A5, c5, rfl, o5, x5⟩; have HO5 := hide (mine_base o5 hI.out.ext.size); have HI5 := hide (hI.out.go x5); clear o5 x5 d0; have c0 := (HI5.out.at_ HH.out).1; have f0 := (HI5.out.at_ HH.out).2)
      go_roundw
      case rel => exact ⟨i + 1, by omega, by go_num, HI5.out.put HH.out Hx.out (Nat.le_refl _) HO5.out⟩
      case measure => simp [intOf]; omega
    · obtain rfl : i = n := by omega
      have hfin := hide (hI.out.done Hl.out (by unfold maxLen; omega) (Nat.le_refl _))
      go_wp2_with fail
      go_ret
      exact hfin.out
end Go.Proofs.Ytpfjkjmimmklcaa

namespace Go.Proofs.Ytpfjkjmimmklcaa
open Go.RowKit

set_option maxRecDepth 100000 in
theorem cloneV (cells : List Value) (A : Option Addr) (n c : Nat) (w : World) (ha : Sl w A n 3 cells) (h1 : OneCells cells) (hn : n ≤ 16777216) :
    Calls Try.prog 58 #[.slice A n c] w (RetOwn w 58 3 n cells) := by
  obtain ⟨i0, hi0, hz0, hz1, hz2⟩ := info_parts infoV
  have Ha := hide ha; have H1 := hide h1
  have heq : ∀ (w : World) (a : Option Addr) (n c n' c' : Nat), (binOp .eql 35 (.slice a n c) (.slice none n' c')).run Try.prog w = .ok (.bool a.isNone) w := fun w a n c n' c' => Lib.run_eql_slice_nil w _ _ a n c n' c' Try.underlying35
  clear ha h1
  cases A with
  | none =>
    have hn0 : n = 0 := by
      rcases Nat.eq_zero_or_pos n with h | h
      · exact h
      · obtain ⟨b, off, hA, _⟩ := Ha.out.2 h; cases hA
    subst hn0
    have hc : cells = [] := List.eq_nil_of_length_eq_zero (by have := Ha.out.1; omega)
    subst hc
    go_enter Try.func58, Try.ntmps58
    go_wp2_with fail
    go_ret
    exact ⟨none, 0, rfl, World.ownsRow_nil _ _ _ _, Ext.refl _⟩
  | some a =>
    have hown := hide (show (w.alloc (.cells #[] 58)).ownsRow w.heap.size 58 3 (.slice (some ⟨w.heap.size, 0, none⟩) 0 0) 0 [] from ⟨rfl, .inr ⟨w.heap.size, 0, #[], rfl, Nat.le_refl _, heap_alloc_new w _, Nat.le_refl _, by unfold maxLen; omega, rfl, rfl⟩⟩)
    go_enter Try.func58, Try.ntmps58
    go_wp2_with (at_builtin; refine wpList_append_sl rfl (.tmp 5) (.tmp 6) _ rfl 58 i0 _ 3 32 Try.underlying35 hi0 hz0 hz1 hz2 rfl (by omega) w (Ext.alloc _ _) _ 0 [] rfl hown.out _ n c cells rfl (Ha.out.ext (Ext.alloc _ _)) H1.out (by unfold maxLen; omega) (by omega) ?_; intro A8 c8 w8 own8 E8 G8 L8)
    go_ret
    have o := own8.out
    simp only [Nat.zero_add, List.nil_append] at o
    exact ⟨A8, c8, by simp, o, E8.out⟩

end Go.Proofs.Ytpfjkjmimmklcaa
