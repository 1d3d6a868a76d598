/-
  The document's Witness: one row at an atom; a record of a search in memory.
-/
import Derived.Test.YtpfjkjmimmklcaaNaiWalk
import Derived.Test.YtpfjkjmimmklcaaNaiG
namespace Go.Proofs.Ytpfjkjmimmklcaa
open Go.RowKit

def lvI (q : Qy) (data : List Tbl) (a : Atm) : Lv := ⟨a, rowsOfP data a.rel, (varsA a).map (atN (varsQ q))⟩
def seenI (q : Qy) (i : Nat) : Nat := (addTs [] (flatT q.atoms i)).length
theorem rowsOfP_one (rel : ByteArray) (r : List V) : rowsOfP [⟨rel, [r]⟩] rel = [r] := by simp [rowsOfP]
theorem step_one_eq {q : Qy} {data : List Tbl} {i : Nat} {a : Atm} {val : List V} (r : List V) (h : q.atoms[i]? = some a) (hl : val.length = seenI q i) :
    stepR ⟨a, rowsOfP [⟨a.rel, [r]⟩] a.rel, (varsA a).map (atN (varsQ q))⟩ (addTs [] (flatT q.atoms i)).length [fullV (varsQ q).length val] = (((lvI q data a).one val r).map (fullV (varsQ q).length)).toList ∧
      ∀ v', (lvI q data a).one val r = some v' → v'.length = seenI q (i + 1) := by
  obtain ⟨⟨rest, h1⟩, h2⟩ := pre_vars h
  have hn := numFit_vars (varsQ q) (varsA a) (addTs [] (flatT q.atoms i)) rest h1
  have hle : ((varsA a).foldl addV (addTs [] (flatT q.atoms i))).length ≤ (varsQ q).length := by rw [h1, List.length_append]; omega
  have hnd := nodup_ks (varsA_in h) (addTs_nodup _ List.nodup_nil)
  refine ⟨?_, fun v' hv => ?_⟩
  · have e := oneR_eq (l := ⟨a, [r], (varsA a).map (atN (varsQ q))⟩) (r := r) hle hn hnd hl (by simp)
    rw [rowsOfP_one]
    unfold stepR
    simp only [List.flatMap_cons, List.flatMap_nil, List.append_nil, List.filterMap_cons, List.filterMap_nil]
    rw [e]
    show _ = ((Lv.one ⟨a, [r], (varsA a).map (atN (varsQ q))⟩ val r).map _).toList
    cases Lv.one ⟨a, [r], (varsA a).map (atN (varsQ q))⟩ val r <;> rfl
  · have hv : (matchA a r).bind (fun m => joinP val ((varsA a).map (atN (varsQ q))) m) = some v' := hv
    cases hm : matchA a r with
    | none => rw [hm] at hv; cases hv
    | some m =>
      rw [hm] at hv
      have hml : m.length = (varsA a).length := by
        obtain ⟨τ, -, rfl⟩ := matchA_iff.1 hm
        simp
      obtain ⟨-, g2⟩ := joinR_eq (addTs [] (flatT q.atoms i)).length (varsQ q).length _ hle ((varsA a).map (atN (varsQ q))) m val _ true hn hnd (fun _ _ h => h) (Nat.le_refl _) hl (by simp; omega)
      rw [(g2 v' hv).2, h2]
      rfl
theorem seenI_all (q : Qy) : seenI q q.atoms.length = (varsQ q).length := by
  unfold seenI flatT
  rw [List.take_length, varsQ_flat]
theorem seenI_le (q : Qy) (i : Nat) : seenI q i ≤ (varsQ q).length := by
  obtain ⟨rest, h⟩ := pre_len q i
  have := congrArg List.length h
  rw [List.length_append] at this
  unfold seenI
  omega
theorem fullV_self {N : Nat} {val : List V} (h : val.length = N) : fullV N val = val := by simp [fullV, h]
theorem fullV_nil (N : Nat) : fullV N [] = List.replicate N zeroV := by simp [fullV]

/-- the record of a search -/
def seaX (nm : ByteArray) (A : Option Addr) (n c : Nat) (B : Option Addr) (m d : Nat) (C : Option Addr) (k e : Nat) (D : Option Addr) (x y : Nat) (t : Int) (R : Option Addr) (u v : Nat) : Array Value :=
  #[.string nm, .slice A n c, .slice B m d, .slice C k e, .slice D x y, .int .i64 t, .slice R u v]
/-- what has no row of values in it -/
def NoRowX (cs : Array Value) : Prop := ∀ (off : Nat) (v : V), ¬ (cs[off]? = some (.int .i64 v.k) ∧ cs[off + 1]? = some (.int .i64 v.i))
theorem seaX_noRow {nm : ByteArray} {A : Option Addr} {n c : Nat} {B : Option Addr} {m d : Nat} {C : Option Addr} {k e : Nat} {D : Option Addr} {x y : Nat} {t : Int} {R : Option Addr} {u v : Nat} : NoRowX (seaX nm A n c B m d C k e D x y t R u v) := fun off w ⟨h1, h2⟩ => by
  match off with
  | 0 => simp [seaX] at h1
  | 1 => simp [seaX] at h1
  | 2 => simp [seaX] at h1
  | 3 => simp [seaX] at h1
  | 4 => simp [seaX] at h1
  | 5 => simp [seaX] at h2
  | 6 => simp [seaX] at h1
  | _ + 7 => simp [seaX] at h1
theorem RowAt.past {w w' : World} {gs : Nat} {ty : TypeId} {cs : Array Value} {A : Option Addr} {n : Nat} {r : List V} (h : RowAt w A n r) (hb : Blk w gs ty cs) (hX : NoRowX cs) (hF : Fr (fun g => g = gs) w w') : RowAt w' A n r := by
  refine ⟨h.1, h.2.1, fun hn => ?_⟩
  obtain ⟨b, off, rfl, hc⟩ := h.2.2 hn
  refine ⟨b, off, rfl, fun j u hu => ?_⟩
  have hne : b ≠ gs := by
    rintro rfl
    have hl := h.1
    match r, hl with
    | [], hl => simp at hl; omega
    | v :: r', _ =>
      have g0 := hc 0 (.int .i64 v.k) (by simp [cellsR, V.cells])
      have g1 := hc 1 (.int .i64 v.i) (by simp [cellsR, V.cells])
      rw [hb.cell] at g0 g1
      exact hX off v ⟨g0, g1⟩
  have h0 := hc j u hu
  have hlt : b < w.heap.size := by
    obtain ⟨b2, off2, v2, e2, _, hlt2, _⟩ := h.get hn
    injection e2 with e2
    injection e2 with e2
    omega
  have hbk := hF.block b hlt hne
  rw [← h0]
  unfold World.cell?
  simp only [hbk]
theorem RRow.past {w w' : World} {gs : Nat} {ty : TypeId} {cs : Array Value} {c : List Value} {r : List V} (h : RRow w c r) (hb : Blk w gs ty cs) (hX : NoRowX cs) (hF : Fr (fun g => g = gs) w w') : RRow w' c r := by
  obtain ⟨A, n, c, h1, h2⟩ := h
  exact ⟨A, n, c, h1, h2.past hb hX hF⟩
/-- rows of one's own, behind a search -/
theorem rows_past {w w' : World} {gs : Nat} {ty : TypeId} {cs : Array Value} {A : Option Addr} {n c : Nat} {cells : List Value} {rs : List (List V)} (ho : w.ownsRow (gs + 1) 35 1 (.slice A n c) n cells) (he : Els RRow 1 w cells rs) (hb : Blk w gs ty cs) (hX : NoRowX cs) (hF : Fr (fun g => g = gs) w w') :
    w'.ownsRow (gs + 1) 35 1 (.slice A n c) n cells ∧ Els RRow 1 w' cells rs :=
  ⟨own_fr ho hF fun g hg e => by have h1 := (ho.lt g hg).1; have e : g = gs := e; omega, he.mono fun _ _ h => h.past hb hX hF⟩
theorem lat_one_row {w : World} {g off n i : Nat} {xs : List (List V)} {r : List V} (h : LAt RRow 1 w (some ⟨g, off, none⟩) n xs) (hr : xs[i]? = some r) : LAt RRow 1 w (some ⟨g, off + i, none⟩) 1 [r] := by
  have hi : i < n := by have := (List.getElem?_eq_some_iff.1 hr).1; have := h.len; omega
  obtain ⟨b, o, x, cs, e, hx, _, hcl, hone, hR, hcell⟩ := h.get (by decide) hi
  injection e with e
  injection e with e1 e2
  subst e1; subst e2
  obtain rfl : x = r := by rw [hx] at hr; exact Option.some.inj hr
  refine ⟨rfl, cs, Els.single hcl hone hR, by simpa using hcl, fun _ => ⟨g, off + i, rfl, fun j u hu => ?_⟩⟩
  have hj : j < 1 := by have := (List.getElem?_eq_some_iff.1 hu).1; omega
  have h2 := hcell j hj
  rw [hu] at h2
  simpa using h2
/-- how a search from here ends -/
def RetAt (gs : Nat) (X : Int → Option Addr → Nat → Nat → Array Value) (lim c : Nat) (v : Nat × List Leaf × Bool) (w0 : World) (en : Ending) (w' : World) : Prop :=
  Fr (fun g => g = gs) w0 w' ∧ ((c + v.1 ≤ 131072 ∧ en = .returned (.bool v.2.2) ∧ ∃ R u z, Blk w' gs 113 (X ((c + v.1 : Nat) : Int) R u z) ∧ (v.2.2 = true → ∃ x, v.2.1.getLast? = some x ∧ LAt RRow 1 w' R u x.2)) ∨
    (131072 < c + v.1 ∧ en = .returned (.bool false) ∧ ∃ t : Nat, ∃ R u z, 131072 < t ∧ t ≤ lim ∧ Blk w' gs 113 (X (t : Int) R u z)))
/-- the same, by cases -/
theorem RetAt.cases {gs : Nat} {X : Int → Option Addr → Nat → Nat → Array Value} {lim c : Nat} {v : Nat × List Leaf × Bool} {w0 : World} {en : Ending} {w' : World} (h : RetAt gs X lim c v w0 en w') :
    (en = .returned (.bool false) ∧ Hid (Fr (fun g => g = gs) w0 w') ∧ Hid (c + v.1 ≤ 131072 ∧ v.2.2 = false) ∧ ∃ R u z, Hid (Blk w' gs 113 (X ((c + v.1 : Nat) : Int) R u z))) ∨
    (en = .returned (.bool true) ∧ Hid (Fr (fun g => g = gs) w0 w') ∧ Hid (c + v.1 ≤ 131072 ∧ v.2.2 = true) ∧ ∃ R u z, Hid (Blk w' gs 113 (X ((c + v.1 : Nat) : Int) R u z)) ∧ Hid (∃ x, v.2.1.getLast? = some x ∧ LAt RRow 1 w' R u x.2)) ∨
    (en = .returned (.bool false) ∧ Hid (Fr (fun g => g = gs) w0 w') ∧ Hid (131072 < c + v.1) ∧ ∃ t : Nat, ∃ R u z, Hid (131072 < t ∧ t ≤ lim) ∧ Hid (Blk w' gs 113 (X (t : Int) R u z))) := by
  obtain ⟨h1, ⟨h2, rfl, R, u, z, h4, h5⟩ | ⟨h2, rfl, t, R, u, z, h3, h4, h5⟩⟩ := h
  · cases hb : v.2.2 with
    | false => exact .inl ⟨rfl, h1, ⟨h2, rfl⟩, R, u, z, h4⟩
    | true => exact .inr (.inl ⟨rfl, h1, ⟨h2, rfl⟩, R, u, z, h4, h5 hb⟩)
  · exact .inr (.inr ⟨rfl, h1, h2, t, R, u, z, ⟨h3, h4⟩, h5⟩)
end Go.Proofs.Ytpfjkjmimmklcaa
