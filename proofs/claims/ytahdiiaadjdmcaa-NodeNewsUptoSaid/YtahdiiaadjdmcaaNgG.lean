/-
  node: its stores.
  node: one thing is done with all stores.
  node: the mark.
-/
import Derived.Test.YtahdiiaadjdmcaaNgF
import Derived.ArgAppend
import Derived.Test.YtahdiiaadjdmcaaStoZ
import Derived.MapKept
namespace Go.Proofs.Ytahdiiaadjdmcaa
open Go.RowKit

theorem infoSt : (Try.prog.info? 65).map (fun i => (i.zero, i.size, i.bytes)) = some (some (.pointer none), 1, 8) := by kernel_rfl
/-- but the live rows' -/
def othersN (K : NK) (v : NdV) : List Nat := if K.kind = 3 then [v.x2, v.x3] else []
def allN (K : NK) (v : NdV) : List Nat := othersN K v ++ [v.x1]
def StsIs (b : Nat) (xs : List Nat) (u : Value) (w : World) : Prop := (xs = [] ∧ u = .slice none 0 0) ∨ (xs ≠ [] ∧ ∃ g, b ≤ g ∧ u = .slice (some ⟨g, 0, none⟩) xs.length xs.length ∧ Blk w g 65 (ptrC xs).toArray)
theorem StsIs.ext {b : Nat} {xs : List Nat} {u : Value} {w w' : World} (h : StsIs b xs u w) (hw : Ext w w') : StsIs b xs u w' := by
  rcases h with h | ⟨h, g, hg, e, hb⟩
  · exact .inl h
  · exact .inr ⟨h, g, hg, e, hb.ext hw⟩
theorem StsIs.base {b c : Nat} {xs : List Nat} {u : Value} {w : World} (h : StsIs c xs u w) (hb : b ≤ c) : StsIs b xs u w := by
  rcases h with h | ⟨h, g, hg, e, hb2⟩
  · exact .inl h
  · exact .inr ⟨h, g, by omega, e, hb2⟩
section
variable {w : World} {lab : Lab} {K : NK} {v : NdV} {a : NAbs} {N : Nat}
theorem eUpon_append {P : Program} {w w' : World} {a : Act} {ops : Array Oper} {o : Oper} {s x : Operand} {t : TypeId} {u1 u2 v' : Value} {G : Value → World → Prop} (hw : Region.wanted o (yielded ops a.tmps) = true) (ho : o.op = .call { callee := .builtin .append, args := #[s, x], argTypes := #[t, t] })
    (hs : a.eval s = u1) (hx : a.eval x = u2) (hrun : (Builtin.append_ #[t, t] o.type #[u1, u2]).run P w = .ok v' w') (hG : Ext w w' ∧ G v' w') : if Region.wanted o (yielded ops a.tmps) = true then eUpon P w (.p G) ((execOp a.eval o).run P w) else G undef w := by
  rw [if_pos hw]
  unfold execOp
  simp only [ho, resolve, invoke, builtin, Sem.run_bind, Sem.run_pure, Result.andThen_ok, List.map_toArray, List.map_cons, List.map_nil, hs, hx, hrun]
  exact hG
theorem nil_grows (w : World) (xs : List Nat) (ty : TypeId) (x1 : Nat) {u : Value} {bs : Nat} (hu : StsIs bs xs u w) {gn : Nat} (hb : Blk w gn 65 #[ptr x1]) (hl : xs.length ≤ 2) :
    ∃ v' w', (Builtin.append_ #[209, 209] ty #[u, .slice (some ⟨gn, 0, none⟩) 1 1]).run Try.prog w = .ok v' w' ∧ w'.ownsRow w.heap.size 65 1 v' (xs ++ [x1]).length (ptrC (xs ++ [x1])) ∧ Ext w w' := by
  obtain ⟨i0, hi0, hz0, hz1, hz2⟩ := info_parts infoSt
  have hx : ptrC (xs ++ [x1]) = ptrC xs ++ [ptr x1] := by unfold ptrC; rw [List.map_append]; rfl
  rw [hx, List.length_append, List.length_singleton]
  rcases hu with ⟨rfl, rfl⟩ | ⟨hne, g, -, rfl, hg⟩
  · obtain ⟨v', w', h1, h2, h3, h4⟩ := run_append_sl (P := Try.prog) w w.heap.size 209 ty 65 i0 _ 1 8 Try.underlying209 hi0 hz0 hz1 hz2 rfl (by omega) (.slice none 0 0) 0 [] (World.ownsRow_nil _ _ _ _) (some ⟨gn, 0, none⟩) 1 1 [ptr x1] (hb.sl rfl) (fun v hv => by obtain rfl := List.mem_singleton.1 hv; rfl) (by unfold maxLen; omega) (by omega) (Nat.le_refl _)
    exact ⟨v', w', h1, h2, Below.grown (Ext.refl w) h3 (Nat.le_refl _) (fun k hk => by cases hk)⟩
  · obtain ⟨v', w', h1, h2, h3⟩ := run_append_arg_grows (P := Try.prog) w 209 ty 65 i0 _ 1 8 Try.underlying209 hi0 hz0 hz1 hz2 rfl (by omega) ⟨g, 0, none⟩ xs.length xs.length (ptrC xs) (by unfold ptrC; simp)
      (fun j u hj => by rw [add_flat, Nat.zero_add, hg.cell]; simpa using hj) ⟨gn, 0, none⟩ 1 1 [ptr x1] rfl (fun j u hj => by rw [add_flat, Nat.zero_add, hb.cell]; simpa using hj) (by omega) (by unfold maxLen; omega) (by omega)
    exact ⟨v', w', h1, h2, Below.grown (Ext.refl w) h3 (Nat.le_refl _) (fun k hk => by cases hk)⟩
def RowSt (b : Nat) (xs : List Nat) (u : Value) (w : World) : Prop := ∃ A c, u = .slice A xs.length c ∧ w.ownsRow b 65 1 (.slice A xs.length c) xs.length (ptrC xs)
theorem RowSt.ext {b : Nat} {xs : List Nat} {u : Value} {w w' : World} (h : RowSt b xs u w) (hw : Ext w w') : RowSt b xs u w' := by
  obtain ⟨A, c, e, h⟩ := h
  exact ⟨A, c, e, mine_ext h hw⟩
theorem others_len (K : NK) (v : NdV) : (othersN K v).length ≤ 2 := by unfold othersN; split <;> simp
end
end Go.Proofs.Ytahdiiaadjdmcaa

namespace Go.Proofs.Ytahdiiaadjdmcaa
open Go.RowKit

/-- a node whose stores may stand apart -/
structure NdO (w : World) (lab : Lab) (K : NK) (v : NdV) (a : NAbs) (T : Nat → SAbs) (N : Nat) : Prop where
  lt : ∀ b i, lab b = some i → b < w.heap.size
  p0 : npart w (lab.own 0) K v a N 0
  s1 : StI w (lab.own 1) v.x1 (T 1) N
  s2 : K.kind = 3 → StI w (lab.own 2) v.x2 (T 2) N
  s3 : K.kind = 3 → StI w (lab.own 3) v.x3 (T 3) N
  p4 : npart w (lab.own 4) K v a N 4
  p5 : npart w (lab.own 5) K v a N 5
def tof (K : NK) (a : NAbs) : Nat → SAbs := fun j => if j = 1 then S1 K a else if j = 2 then S2 K a else S3 K a
theorem NdQ.open_ {w : World} {lab : Lab} {K : NK} {v : NdV} {a : NAbs} {N : Nat} (h : NdQ w lab K v a (S1 K a) N) : NdO w lab K v a (tof K a) N := ⟨h.r.lt, h.r.part 0, h.s, h.r.part 2, h.r.part 3, h.r.part 4, h.r.part 5⟩
theorem NdO.shut {w : World} {lab : Lab} {K : NK} {v : NdV} {a a' : NAbs} {T : Nat → SAbs} {N : Nat} (h : NdO w lab K v a T N) (h1 : T 1 = S1 K a') (h2 : K.kind = 3 → T 2 = S2 K a') (h3 : K.kind = 3 → T 3 = S3 K a') (h4 : npart w (lab.own 4) K v a' N 4) (h5 : npart w (lab.own 5) K v a' N 5) : NdQ w lab K v a' (S1 K a') N := by
  refine ⟨⟨h.lt, fun i => ?_⟩, h1 ▸ h.s1⟩
  match i with
  | 0 => exact h.p0
  | 1 => exact trivial
  | 2 => exact fun hk => h2 hk ▸ h.s2 hk
  | 3 => exact fun hk => h3 hk ▸ h.s3 hk
  | 4 => exact h4
  | 5 => exact h5
  | _ + 6 => exact trivial
theorem NdO.chg {w w' : World} {C : Nat → Prop} {lab : Lab} {K : NK} {v : NdV} {a : NAbs} {T : Nat → SAbs} {N : Nat} (h : NdO w lab K v a T N) (hw : Chg C w w') (hC : ∀ g, lab.dom g → ¬ C g) : NdO w' lab K v a T N :=
  ⟨fun b i hb => Nat.lt_of_lt_of_le (h.lt b i hb) hw.size, npart_chg hw (fun g hg => hC g ⟨0, hg⟩) 0 h.p0, h.s1.chg hw fun g hg => hC g ⟨1, hg⟩, fun hk => (h.s2 hk).chg hw fun g hg => hC g ⟨2, hg⟩, fun hk => (h.s3 hk).chg hw fun g hg => hC g ⟨3, hg⟩, npart_chg hw (fun g hg => hC g ⟨4, hg⟩) 4 h.p4, npart_chg hw (fun g hg => hC g ⟨5, hg⟩) 5 h.p5⟩
theorem NdO.ext {w w' : World} {lab : Lab} {K : NK} {v : NdV} {a : NAbs} {T : Nat → SAbs} {N : Nat} (h : NdO w lab K v a T N) (hw : Ext w w') : NdO w' lab K v a T N := h.chg (C := fun _ => False) (Chg.of hw) fun _ _ x => x
theorem NdO.more {w : World} {lab : Lab} {K : NK} {v : NdV} {a : NAbs} {T : Nat → SAbs} {N M : Nat} (h : NdO w lab K v a T N) (hM : N ≤ M) : NdO w lab K v a T M :=
  ⟨h.lt, h.p0, h.s1.more hM, fun hk => (h.s2 hk).more hM, fun hk => (h.s3 hk).more hM, npart_mono (fun _ h => h) hM 4 h.p4, npart_mono (fun _ h => h) hM 5 h.p5⟩
def updT (T : Nat → SAbs) (j : Nat) (S : SAbs) : Nat → SAbs := fun i => if i = j then S else T i
theorem lab_turn {w w' : World} {lab : Lab} (hlt : ∀ b i, lab b = some i → b < w.heap.size) (j : Nat) {B' : Nat → Prop} (hB : ∀ b, B' b → lab.own j b ∨ w.heap.size ≤ b) (hl : ∀ b, B' b → b < w'.heap.size) (hC : Chg (lab.own j) w w') :
    ∃ lab' : Lab, (∀ b i, lab' b = some i → b < w'.heap.size) ∧ (∀ b, B' b → lab'.own j b) ∧ (∀ i, i ≠ j → lab'.own i = lab.own i) ∧ Step w lab w' lab' := by
  have hlt2 : ∀ b i, lab.grow w.heap.size j B' b = some i → b < w'.heap.size := fun b i hb => by
    unfold Lab.grow at hb
    split at hb
    · have := hC.size; omega
    · split at hb
      · exact hl b (by assumption)
      · cases hb
  refine ⟨lab.grow w.heap.size j B', hlt2, fun b hb => ?_, fun i hi => ?_, fun b hb => ?_, hC.mono fun g hg _ => ⟨j, hg⟩⟩
  · show lab.grow w.heap.size j B' b = some j
    unfold Lab.grow
    rcases hB b hb with h1 | h1
    · rw [if_pos (hlt b _ h1)]; exact h1
    · rw [if_neg (by omega), if_pos hb]
  · funext b
    unfold Lab.own Lab.grow
    apply propext
    split
    · exact Iff.rfl
    · split
      · constructor
        · intro h1; injection h1 with h1; exact absurd h1.symm hi
        · intro h1; have := hlt b _ h1; omega
      · constructor
        · intro h1; cases h1
        · intro h1; have := hlt b _ h1; omega
  · obtain ⟨i, hi⟩ := hb
    unfold Lab.grow at hi
    split at hi
    · exact .inl ⟨i, hi⟩
    · right; omega
def ptrX (v : NdV) (j : Nat) : Nat := if j = 1 then v.x1 else if j = 2 then v.x2 else v.x3
theorem NdO.sti {w : World} {lab : Lab} {K : NK} {v : NdV} {a : NAbs} {T : Nat → SAbs} {N : Nat} (h : NdO w lab K v a T N) {j : Nat} (hj : j = 1 ∨ (K.kind = 3 ∧ (j = 2 ∨ j = 3))) : StI w (lab.own j) (ptrX v j) (T j) N := by
  rcases hj with rfl | ⟨hk, rfl | rfl⟩
  · exact h.s1
  · exact h.s2 hk
  · exact h.s3 hk
/-- one store's call -/
theorem NdO.call {w w' : World} {lab : Lab} {K : NK} {v : NdV} {a : NAbs} {T : Nat → SAbs} {N M : Nat} (h : NdO w lab K v a T N) {j : Nat} (hj : j = 1 ∨ (K.kind = 3 ∧ (j = 2 ∨ j = 3))) (hM : N ≤ M) {S' : SAbs} (hs : StS w (lab.own j) (ptrX v j) S' M w') : ∃ lab', NdO w' lab' K v a (updT T j S') M ∧ Step w lab w' lab' := by
  obtain ⟨B', h1, h2, h3, h4⟩ := hs
  obtain ⟨lab', r1, r2, r3, r4⟩ := lab_turn h.lt j h2 h3 h4
  have hj0 : 0 ≠ j := by omega
  have hj4 : 4 ≠ j := by omega
  have hj5 : 5 ≠ j := by omega
  have hst : ∀ i, (i = 1 ∨ (K.kind = 3 ∧ (i = 2 ∨ i = 3))) → StI w' (lab'.own i) (ptrX v i) (updT T j S' i) M := fun i hi => by
    unfold updT
    by_cases e : i = j
    · subst e
      rw [if_pos rfl]
      exact h1.mono r2
    · rw [if_neg e, r3 i e]
      exact ((h.sti hi).chg h4 (own_apart e)).more hM
  refine ⟨lab', ⟨r1, ?_, hst 1 (.inl rfl), fun hk => hst 2 (.inr ⟨hk, .inl rfl⟩), fun hk => hst 3 (.inr ⟨hk, .inr rfl⟩), ?_, ?_⟩, r4⟩
  · rw [r3 0 hj0]; exact npart_chg h4 (own_apart hj0) 0 h.p0
  · rw [r3 4 hj4]; exact npart_mono (fun _ h => h) hM 4 (npart_chg h4 (own_apart hj4) 4 h.p4)
  · rw [r3 5 hj5]; exact npart_mono (fun _ h => h) hM 5 (npart_chg h4 (own_apart hj5) 5 h.p5)
/-- the stores' places in all() -/
def idxN (K : NK) (i : Nat) : Nat := if K.kind = 3 then if i = 0 then 2 else if i = 1 then 3 else 1 else 1
theorem idx_at {K : NK} {v : NdV} {i x : Nat} (h : (allN K v)[i]? = some x) : x = ptrX v (idxN K i) ∧ (idxN K i = 1 ∨ (K.kind = 3 ∧ (idxN K i = 2 ∨ idxN K i = 3))) := by
  unfold allN othersN at h
  unfold idxN ptrX
  by_cases hk : K.kind = 3
  · rw [if_pos hk] at h
    rw [if_pos hk]
    match i, h with
    | 0, h => exact ⟨by simpa using h.symm, .inr ⟨hk, .inl rfl⟩⟩
    | 1, h => exact ⟨by simpa using h.symm, .inr ⟨hk, .inr rfl⟩⟩
    | 2, h => exact ⟨by simpa using h.symm, .inl rfl⟩
    | i + 3, h => simp at h
  · rw [if_neg hk] at h
    rw [if_neg hk]
    match i, h with
    | 0, h => exact ⟨by simpa using h.symm, .inl rfl⟩
    | i + 1, h => simp at h
theorem all_len (K : NK) (v : NdV) : (allN K v).length = if K.kind = 3 then 3 else 1 := by unfold allN othersN; split <;> rfl
/-- so many stores are done -/
def doneT (K : NK) (f : SAbs → SAbs) (T : Nat → SAbs) : Nat → Nat → SAbs
  | 0 => T
  | i + 1 => updT (doneT K f T i) (idxN K i) (f (T (idxN K i)))
theorem done_at (K : NK) (f : SAbs → SAbs) (T : Nat → SAbs) {i : Nat} (hi : i < if K.kind = 3 then 3 else 1) : doneT K f T i (idxN K i) = T (idxN K i) := by
  by_cases hk : K.kind = 3
  · rw [if_pos hk] at hi
    match i, hi with
    | 0, _ => rfl
    | 1, _ => simp [doneT, updT, idxN, hk]
    | 2, _ => simp [doneT, updT, idxN, hk]
  · rw [if_neg hk] at hi
    obtain rfl : i = 0 := by omega
    rfl
theorem done_all (K : NK) (f : SAbs → SAbs) (T : Nat → SAbs) : doneT K f T (if K.kind = 3 then 3 else 1) 1 = f (T 1) ∧ (K.kind = 3 → doneT K f T (if K.kind = 3 then 3 else 1) 2 = f (T 2)) ∧ (K.kind = 3 → doneT K f T (if K.kind = 3 then 3 else 1) 3 = f (T 3)) := by
  by_cases hk : K.kind = 3
  · rw [if_pos hk]
    exact ⟨by simp [doneT, updT, idxN, hk], fun _ => by simp [doneT, updT, idxN, hk], fun _ => by simp [doneT, updT, idxN, hk]⟩
  · rw [if_neg hk]
    exact ⟨by simp [doneT, updT, idxN, hk], fun h => absurd h hk, fun h => absurd h hk⟩
end Go.Proofs.Ytahdiiaadjdmcaa

namespace Go.Proofs.Ytahdiiaadjdmcaa
open Go.RowKit

def beginN (a : NAbs) : NAbs × Int := match a.old with
  | none => (⟨a.now, some a.now⟩, 0)
  | some _ => (a, 64)
def commitN (a : NAbs) : NAbs × Int := match a.old with
  | none => (a, 65)
  | some _ => (⟨a.now, none⟩, 0)
def rollN (a : NAbs) : NAbs × Int := match a.old with
  | none => (a, 65)
  | some o => (⟨o, none⟩, 0)
/-- a map's copy -/
theorem run_clone {P : Program} {w : World} {r : Nat} {es : Array MapEntry} {clock : Nat} (t : TypeId) (hb : w.heap[r]? = some (.map es clock)) :
    (Extern.MapsClone.clone #[.iface t (.map (some r))]).run P w = .ok (.iface t (.map (some w.heap.size))) (w.alloc (.map es clock)) := by
  have e : Extern.MapsClone.clone #[.iface t (.map (some r))] = (getObj r >>= fun o => match o with
      | .map entries clock => (newObj (.map entries clock) >>= fun n => pure (.iface t (.map (some n))))
      | _ => stuck "maps.clone: a map expected") := rfl
  rw [e]
  simp [MapKept.run_getObj_map hb, Result.andThen, go_sem]
theorem run_eql_nilmap (d : Nat) (p : Option Nat) (w : World) : (Op.equalIn (d + 1) 78 (.map p) (.map none)).run Try.prog w = .ok p.isNone w := by
  cases p <;> simp [Op.equalIn, run_underlying Try.underlying78]
theorem eql_nilmap (p : Option Nat) (w : World) : (binOp .eql 78 (.map p) (.map none)).run Try.prog w = .ok (.bool p.isNone) w := by
  simp only [binOp]
  simp [show Op.equal 78 (.map p) (.map none) = Op.equalIn (9999 + 1) 78 (.map p) (.map none) from rfl, run_eql_nilmap 9999 p w]
theorem ta_map (v : Value) (w : World) : (Instr.typeAssert (.iface 78 v) 20 78 false).run Try.prog w = .ok v w := by kernel_rfl
theorem ta_trim_yes (v : Value) (w : World) : (Instr.typeAssert (.iface 77 v) 36 77 true).run Try.prog w = .ok (.tuple #[v, .bool true]) w := by kernel_rfl
theorem ta_trim_leaf (v : Value) (w : World) : (Instr.typeAssert (.iface 74 v) 36 77 true).run Try.prog w = .ok (.tuple #[.pointer none, .bool false]) w := by kernel_rfl
theorem ta_trim_meet (v : Value) (w : World) : (Instr.typeAssert (.iface 64 v) 36 77 true).run Try.prog w = .ok (.tuple #[.pointer none, .bool false]) w := by kernel_rfl
theorem ta_meet_trim (v : Value) (w : World) : (Instr.typeAssert (.iface 77 v) 36 64 true).run Try.prog w = .ok (.tuple #[.pointer none, .bool false]) w := by kernel_rfl
theorem ta_meet_leaf (v : Value) (w : World) : (Instr.typeAssert (.iface 74 v) 36 64 true).run Try.prog w = .ok (.tuple #[.pointer none, .bool false]) w := by kernel_rfl
theorem ta_meet_yes (v : Value) (w : World) : (Instr.typeAssert (.iface 64 v) 36 64 true).run Try.prog w = .ok (.tuple #[v, .bool true]) w := by kernel_rfl
theorem ta_trim {K : NK} (hK : NKOk K) (v : Value) (w : World) : (Instr.typeAssert (.iface (workT K) v) 36 77 true).run Try.prog w = .ok (.tuple #[if K.kind = 2 then v else .pointer none, .bool (decide (K.kind = 2))]) w := by
  unfold workT
  rcases hK.kind with hk | hk | hk
  · rw [if_neg (by omega), if_neg (by omega), if_neg (by omega), decide_eq_false (by omega)]; exact ta_trim_leaf v w
  · rw [if_pos hk, if_pos hk, decide_eq_true hk]; exact ta_trim_yes v w
  · rw [if_neg (by omega), if_pos hk, if_neg (by omega), decide_eq_false (by omega)]; exact ta_trim_meet v w
theorem ta_meet {K : NK} (hK : NKOk K) (v : Value) (w : World) : (Instr.typeAssert (.iface (workT K) v) 36 64 true).run Try.prog w = .ok (.tuple #[if K.kind = 3 then v else .pointer none, .bool (decide (K.kind = 3))]) w := by
  unfold workT
  rcases hK.kind with hk | hk | hk
  · rw [if_neg (by omega), if_neg (by omega), if_neg (by omega), decide_eq_false (by omega)]; exact ta_meet_leaf v w
  · rw [if_pos hk, if_neg (by omega), decide_eq_false (by omega)]; exact ta_meet_trim v w
  · rw [if_neg (by omega), if_pos hk, if_pos hk, decide_eq_true hk]; exact ta_meet_yes v w
/-- numbers stand apart from a cell that holds a map -/
theorem NumIn.setMap {w : World} {B : Nat → Prop} {A : Option Addr} {n : Nat} {xs : List Int} (h : NumIn w B A n xs) {p : Addr} {q : Option Nat} (hp : w.cell? p = some (.map q)) (u : Value) : NumIn (w.setCell p u) B A n xs := by
  refine ⟨⟨h.1.1, h.1.2.1, fun hn => ?_⟩, h.2⟩
  obtain ⟨b, off, hA, hc⟩ := h.1.2.2 hn
  refine ⟨b, off, hA, fun j x hx => ?_⟩
  have h1 := hc j x hx
  refine (World.cell?_setCell_other _ _ _ _ fun e => ?_).trans h1
  rw [e, h1] at hp
  rw [List.getElem?_map] at hx
  cases hz : xs[j]? with
  | none => rw [hz] at hx; cases hx
  | some z => rw [hz] at hx; injection hx with hx; rw [← hx] at hp; injection hp with hp; cases hp
/-- one block is another part's -/
def relab (lab : Lab) (g j : Nat) : Lab := fun b => if b = g then some j else lab b
theorem relab_own {lab : Lab} {g j i : Nat} (hg : ∀ k, lab g = some k → k ≠ i) (hi : i ≠ j) : (relab lab g j).own i = lab.own i := by
  funext b
  unfold Lab.own relab
  apply propext
  split
  · rename_i e
    subst e
    constructor
    · intro h; injection h with h; exact absurd h.symm hi
    · intro h; exact absurd rfl (hg i h)
  · exact Iff.rfl
theorem relab_new (lab : Lab) (g j : Nat) : (relab lab g j).own j g := by unfold Lab.own relab; rw [if_pos rfl]
theorem relab_dom {lab : Lab} {g j b : Nat} (h : (relab lab g j).dom b) : lab.dom b ∨ b = g := by
  obtain ⟨i, hi⟩ := h
  unfold relab at hi
  split at hi
  · right; assumption
  · exact .inl ⟨i, hi⟩
/-- the trim's struct is written: map p1, marked map p2 -/
theorem NdO.trim {w : World} {lab : Lab} {K : NK} {v : NdV} {a a' : NAbs} {T : Nat → SAbs} {N : Nat} (h : NdO w lab K v a T N) (hk : K.kind = 2) {g j i m : Nat} {p2 : Option Nat} {q : Option Nat} {u : Value} (hg : g < w.heap.size) (hl : ∀ k, lab g = some k → k = 5) (hj : j = 4 ∨ j = 5)
    (hp : w.cell? ⟨v.k, i, none⟩ = some (.map q)) (hc : (workC K v).setIfInBounds i u = workC K { v with m1 := m, m2 := .map p2 }) (h1 : T 1 = S1 K a')
    (h4 : ∀ w' B, (∀ b, b ≠ v.k → w'.heap[b]? = w.heap[b]?) → (∀ b, lab.own 4 b → B b) → (j = 4 → B g) → CntAt w' B K m N a'.now)
    (h5 : ∀ w' B, (∀ b, b ≠ v.k → w'.heap[b]? = w.heap[b]?) → (j = 5 → B g) → ∀ o, a'.old = some o → ∃ b, p2 = some b ∧ CntAt w' B K b N o) :
    ∃ lab', NdQ (w.setCell ⟨v.k, i, none⟩ u) lab' K { v with m1 := m, m2 := .map p2 } a' (S1 K a') N ∧ (∀ b, lab'.dom b → lab.dom b ∨ b = g) ∧ Chg lab.dom w (w.setCell ⟨v.k, i, none⟩ u) := by
  obtain ⟨⟨n1, n2⟩, ⟨l1, l2⟩, ⟨k1, k2⟩, hkA, hsA, huA⟩ := h.p0
  have hC : Chg (lab.own 0) w (w.setCell ⟨v.k, i, none⟩ u) := Chg.setCell (B := lab.own 0) (Chg.refl _ w) (p := ⟨v.k, i, none⟩) (.inl k2) u
  have hfar : ∀ b, b ≠ v.k → (w.setCell ⟨v.k, i, none⟩ u).heap[b]? = w.heap[b]? := fun b hb => Below.heap_setCell w ⟨v.k, i, none⟩ u b hb
  have own : ∀ x, x < 4 → (relab lab g j).own x = lab.own x := fun x hx => relab_own (fun k hk => by have := hl k hk; omega) (by omega)
  refine ⟨relab lab g j, ⟨⟨fun b x hb => ?_, fun x => ?_⟩, ?_⟩, fun b hb => relab_dom hb, hC.mono fun b hb _ => ⟨0, hb⟩⟩
  · have hs := hC.size
    rcases relab_dom ⟨x, hb⟩ with ⟨y, hy⟩ | rfl
    · have := h.lt b y hy; omega
    · omega
  · match x with
    | 0 =>
      rw [own 0 (by decide)]
      have hw : workS K = 80 := (workC_trim hk v).1
      have e1 : v.n ≠ v.k := fun e => by
        have k1 := k1
        unfold Blk at n1 k1
        rw [e, k1, hw] at n1
        injection n1 with n1; injection n1 with _ n1; exact absurd n1 (by decide)
      have e2 : v.l ≠ v.k := fun e => by
        have k1 := k1
        unfold Blk at l1 k1
        rw [e, k1, hw] at l1
        injection l1 with l1; injection l1 with _ l1; exact absurd l1 (by decide)
      refine ⟨⟨(hfar v.n e1).trans n1, n2⟩, ⟨(hfar v.l e2).trans l1, l2⟩, ⟨?_, k2⟩, hkA.setMap hp u, hsA.setMap hp u, huA.setMap hp u⟩
      rw [← hc]
      exact k1.set_ i u
    | 1 => exact trivial
    | 2 => exact fun h3 => by omega
    | 3 => exact fun h3 => by omega
    | 4 =>
      exact fun _ => h4 _ _ hfar (fun b hb => by
        unfold Lab.own relab
        by_cases e : b = g
        · subst e; exact absurd (hl 4 hb) (by decide)
        · rw [if_neg e]; exact hb) (fun e => by subst e; exact relab_new lab g 4)
    | 5 => exact fun _ => ⟨p2, rfl, fun o ho => h5 _ _ hfar (fun e => by subst e; exact relab_new lab g 5) o ho⟩
    | _ + 6 => exact trivial
  · rw [own 1 (by decide), ← h1]
    exact h.s1.chg hC (own_apart (by decide))
end Go.Proofs.Ytahdiiaadjdmcaa
