/-
  The document's Walk.
-/
import Derived.Test.YtpfjkjmimmklcaaNaiStep
import Derived.Test.YtpfjkjmimmklcaaNaiH
namespace Go.Proofs.Ytpfjkjmimmklcaa
open Go.RowKit

theorem partsN_app : ∀ (ls ms : List Lv) (ps : List (List V)), partsN (ls ++ ms) ps = partsN ms (partsN ls ps)
  | [], _, _ => rfl
  | _ :: ls, ms, _ => partsN_app ls ms _
theorem trialsN_app : ∀ (ls ms : List Lv) (ps : List (List V)), trialsN (ls ++ ms) ps = trialsN ls ps + trialsN ms (partsN ls ps)
  | [], _, _ => by simp [trialsN, partsN]
  | l :: ls, ms, ps => by
    rw [List.cons_append, trialsN, trialsN, trialsN_app ls ms, partsN]
    omega
/-- the valuations of the first atoms, the trials up to them -/
def partsI (q : Qy) (data : List Tbl) (i : Nat) : List (List V) := partsN ((lvsFrom (varsQ q) data q.atoms).take i) [[]]
def trialsI (q : Qy) (data : List Tbl) (i : Nat) : Nat := trialsN ((lvsFrom (varsQ q) data q.atoms).take i) [[]]
section
variable {q : Qy} {data : List Tbl} {i : Nat} {a : Atm}
theorem lvs_at (h : q.atoms[i]? = some a) : (lvsFrom (varsQ q) data q.atoms)[i]? = some ⟨a, rowsOfP data a.rel, (varsA a).map (atN (varsQ q))⟩ := by
  unfold lvsFrom
  rw [List.getElem?_map, h]; rfl
theorem lvs_take (all : List ByteArray) (as_ : List Atm) : (lvsFrom all data as_).take i = lvsFrom all data (as_.take i) := by
  unfold lvsFrom
  rw [List.map_take]
theorem trialsI_next (h : q.atoms[i]? = some a) : trialsI q data (i + 1) = trialsI q data i + (partsI q data i).length * (rowsOfP data a.rel).length := by
  unfold trialsI partsI
  rw [take_next _ _ _ (lvs_at h), trialsN_app]
  simp [trialsN]
theorem partsI_next (h : q.atoms[i]? = some a) : partsI q data (i + 1) = (partsI q data i).flatMap (Lv.step ⟨a, rowsOfP data a.rel, (varsA a).map (atN (varsQ q))⟩) := by
  unfold partsI
  rw [take_next _ _ _ (lvs_at h), partsN_app]
  rfl
theorem trialsI_le : trialsI q data i ≤ costP q data := by
  have e : trialsN (lvsFrom (varsQ q) data q.atoms) [[]] = costP q data := by rw [trials_cost]; simp [costP]
  rw [← e]
  conv => rhs; rw [← List.take_append_drop i (lvsFrom (varsQ q) data q.atoms)]
  rw [trialsN_app]
  exact Nat.le_add_right _ _
theorem trialsI_end (h : q.atoms.length ≤ i) : trialsI q data i = costP q data ∧ partsI q data i = leaves (lvsFrom (varsQ q) data q.atoms) [] := by
  unfold trialsI partsI
  rw [List.take_of_length_le (by simpa [lvsFrom] using h), trials_cost, parts_leaves]
  simp [costP]
theorem pre_len (q : Qy) (i : Nat) : ∃ rest, varsQ q = addTs [] (flatT q.atoms i) ++ rest := by
  rw [varsQ_flat]
  have e2 : q.atoms.flatMap (·.terms) = flatT q.atoms i ++ (q.atoms.drop i).flatMap (·.terms) := by unfold flatT; rw [← List.flatMap_append, List.take_append_drop]
  rw [e2, addTs_append]
  exact addTs_pre _ _
theorem partsI_len : ∀ p ∈ partsI q data i, p.length = (addTs [] (flatT q.atoms i)).length := fun p hp => by
  unfold partsI at hp
  rw [parts_leaves, lvs_take] at hp
  simp only [List.flatMap_cons, List.flatMap_nil, List.append_nil] at hp
  obtain ⟨rest, hr⟩ := pre_len q i
  obtain ⟨σ, -, -, h3⟩ := (leaves_iff (varsQ q) data (q.atoms.take i) [] rest [] p hr rfl (List.nodup_nil)).1 hp
  rw [h3, List.length_map]
  rfl
theorem nodup_ks {all xs : List ByteArray} (h : ∀ x ∈ xs, x ∈ all) (hnd : xs.Nodup) : (xs.map (atN all)).Nodup := by
  rw [List.Nodup, List.pairwise_map]
  refine List.Pairwise.imp_of_mem (fun {x y} hx hy hne he => hne ?_) hnd
  have h1 := atN_get (h x hx)
  have h2 := atN_get (h y hy)
  rw [he] at h1
  exact Option.some.inj (h1.symm.trans h2)
theorem varsA_in (h : q.atoms[i]? = some a) : ∀ x ∈ varsA a, x ∈ varsQ q := fun x hx => by
  rcases (mem_addTs _ _ _).1 hx with h1 | ⟨t, h1, h2, h3⟩
  · cases h1
  · exact mem_vars.2 ⟨a, List.mem_of_getElem? h, t, h1, h2, h3⟩
theorem walk_next (h : q.atoms[i]? = some a) : stepR ⟨a, rowsOfP data a.rel, (varsA a).map (atN (varsQ q))⟩ (addTs [] (flatT q.atoms i)).length ((partsI q data i).map (fullV (varsQ q).length)) = (partsI q data (i + 1)).map (fullV (varsQ q).length) := by
  obtain ⟨⟨rest, h1⟩, h2⟩ := pre_vars h
  rw [partsI_next h]
  have hn := numFit_vars (varsQ q) (varsA a) (addTs [] (flatT q.atoms i)) rest h1
  have hle : ((varsA a).foldl addV (addTs [] (flatT q.atoms i))).length ≤ (varsQ q).length := by rw [h1, List.length_append]; omega
  exact stepR_eq hle hn (nodup_ks (varsA_in h) (addTs_nodup _ List.nodup_nil)) (by simp) (partsI q data i) partsI_len
theorem partsI_grow (h : q.atoms[i]? = some a) : (partsI q data (i + 1)).length ≤ (partsI q data i).length * (rowsOfP data a.rel).length := by
  have h1 := stepR_len ⟨a, rowsOfP data a.rel, (varsA a).map (atN (varsQ q))⟩ (addTs [] (flatT q.atoms i)).length ((partsI q data i).map (fullV (varsQ q).length))
  rw [walk_next h, List.length_map, List.length_map] at h1
  exact h1
theorem partsI_full : ∀ p ∈ (partsI q data i).map (fullV (varsQ q).length), p.length = (varsQ q).length := fun p hp => by
  obtain ⟨p0, h0, rfl⟩ := List.mem_map.1 hp
  refine fullV_len ?_
  rw [partsI_len p0 h0]
  obtain ⟨rest, hr⟩ := pre_len q i
  have := congrArg List.length hr
  rw [List.length_append] at this
  omega
end

/-- all valuations -/
def leavesQ (q : Qy) (data : List Tbl) : List (List V) := leaves (lvsFrom (varsQ q) data q.atoms) []
theorem partsI_done {q : Qy} {data : List Tbl} : (partsI q data q.atoms.length).map (fullV (varsQ q).length) = leavesQ q data := by
  have h := (trialsI_end (q := q) (data := data) (Nat.le_refl _)).2
  unfold leavesQ
  rw [← h]
  conv => rhs; rw [← List.map_id (partsI q data q.atoms.length)]
  refine List.map_congr_left fun p hp => ?_
  have h1 := partsI_len p hp
  have h2 : addTs [] (flatT q.atoms q.atoms.length) = varsQ q := by
    rw [varsQ_flat]
    unfold flatT
    rw [List.take_of_length_le (Nat.le_refl _)]
  rw [h2] at h1
  simp [fullV, h1]
theorem leavesQ_len {q : Qy} {data : List Tbl} : (leavesQ q data).length = (partsI q data q.atoms.length).length := by rw [← partsI_done, List.length_map]
/-- the valuations, the trials; or that they are too many -/
def RetWp (w0 : World) (k co : Nat) (lv : List (List V)) (en : Ending) (w' : World) : Prop :=
  if co ≤ 131072 then ∃ A c, en = .returned (.tuple #[.slice A lv.length c, .int .i64 co, .bool true]) ∧ lv.length ≤ 131072 ∧ LAt (RPart k) 2 w' A lv.length lv ∧ Ext w0 w'
  else en = .returned (.tuple #[.slice none 0 0, .int .i64 0, .bool false]) ∧ Ext w0 w'
theorem RetWp.no {w0 w' : World} {k co : Nat} {lv : List (List V)} (h : ¬ co ≤ 131072) (hE : Ext w0 w') : RetWp w0 k co lv (.returned (.tuple #[.slice none 0 0, .int .i64 0, .bool false])) w' := by
  unfold RetWp
  rw [if_neg h]
  exact ⟨rfl, hE⟩
theorem RetWp.yes {w0 w' : World} {k co t : Nat} {lv : List (List V)} {A : Option Addr} {c : Nat} (h : co ≤ 131072) (ht : t = co) (hl : lv.length ≤ 131072) (hA : LAt (RPart k) 2 w' A lv.length lv) (hE : Ext w0 w') : RetWp w0 k co lv (.returned (.tuple #[.slice A lv.length c, .int .i64 t, .bool true])) w' := by
  unfold RetWp
  rw [if_pos h]
  exact ⟨A, c, by rw [ht], hl, hA, hE⟩
theorem RetWp.ok {w0 w' : World} {k co : Nat} {lv : List (List V)} {en : Ending} (h : RetWp w0 k co lv en w') (hc : co ≤ 131072) : ∃ A c, en = .returned (.tuple #[.slice A lv.length c, .int .i64 co, .bool true]) ∧ lv.length ≤ 131072 ∧ LAt (RPart k) 2 w' A lv.length lv ∧ Ext w0 w' := by
  unfold RetWp at h
  rwa [if_pos hc] at h
theorem RetWp.bad {w0 w' : World} {k co : Nat} {lv : List (List V)} {en : Ending} (h : RetWp w0 k co lv en w') (hc : ¬ co ≤ 131072) : en = .returned (.tuple #[.slice none 0 0, .int .i64 0, .bool false]) ∧ Ext w0 w' := by
  unfold RetWp at h
  rwa [if_neg hc] at h
def RetWl (w0 : World) (q : Qy) (data : List Tbl) : Ending → World → Prop := RetWp w0 q.atoms.length (costP q data) (leavesQ q data)
theorem step_ok {w0 : World} {mx tn room : Nat} {outs : List (List V)} {trials : Int} {en : Ending} {w' : World} (ht : trials = tn) (hle : tn ≤ room) (h : RetSt w0 mx outs trials room en w') :
    ∃ A c, en = .returned (.tuple #[.slice A outs.length c, .int .i64 tn]) ∧ LAt (RPart mx) 2 w' A outs.length outs ∧ Ext w0 w' := by
  unfold RetSt at h
  rw [if_pos (by omega)] at h
  obtain ⟨A, c, cells, h1, h2, h3, h4⟩ := h
  exact ⟨A, c, by rw [h1, ht], LAt.own rfl (h3.mono fun _ _ h => h.part) h2, h4⟩
theorem step_no {w0 : World} {mx tn room : Nat} {outs : List (List V)} {trials : Int} {en : Ending} {w' : World} (ht : trials = tn) (hle : ¬ tn ≤ room) (h : RetSt w0 mx outs trials room en w') :
    ∃ t : Int, room < t ∧ t ≤ 1099511758848 ∧ en = .returned (.tuple #[.slice none 0 0, .int .i64 t]) ∧ Ext w0 w' := by
  unfold RetSt at h
  rw [if_neg (by omega)] at h
  exact h

set_option maxHeartbeats 4000000 in
set_option maxRecDepth 100000 in
theorem ref_walk (q : Qy) (L : QLoc) (data : List Tbl) (B : Option Addr) (m c : Nat) (w : World) (hq : QAt w L q) (hM : smallM 1048576 q) (hsh : Shaped q)
    (hb : LAt RB 2 w B m data) (hm : m ≤ 1048576) (hsum : (data.flatMap Tbl.rows).length ≤ 1099511627776) (hrow : ∀ t ∈ data, ∀ r ∈ t.rows, r.length ≤ 1048576) :
    Calls Try.prog 51 #[qval q.name L, .slice B m c] w (RetWl w q data) := by
  show Calls _ _ _ _ (RetWp w q.atoms.length (costP q data) (leavesQ q data))
  have hm6 : L.m ≤ 512 := by have := hq.atoms.len; have := hsh.six; omega
  have h60 := vars_sixty hsh
  have hsix := hsh.six
  have HVS := hide (fun w1 (h1 : Ext w w1) => ref_vars q L w1 (hq.ext h1) hM hm6)
  have HST := hide (fun (parts : List (List V)) (P : Option Addr) (np cp i : Nat) (a : Atm) (room : Nat) (w1 : World) (h1 : Ext w w1) (hp : LAt (RPart i) 2 w1 P np parts) (hpl : ∀ p ∈ parts, p.length = (varsQ q).length) (hi : q.atoms[i]? = some a) (hr : room ≤ 131072) (hnp : np ≤ 131072) =>
    ref_step q L data B m c parts P np cp i i a room w1 (hq.ext h1) hM hsh (hb.ext RB.stab h1) hm hsum hrow hp hpl (by have := (List.getElem?_eq_some_iff.1 hi).1; omega) hi hr hnp)
  have HKL := hide (show L.m = q.atoms.length from hq.atoms.len)
  have HSIX := hide hsix
  clear hq hM hb hm hsum hrow hsix hsh
  have HDE := hide (partsI_done (q := q) (data := data))
  have HDL := hide (leavesQ_len (q := q) (data := data))
  have HTE := hide (trialsI_end (q := q) (data := data) (i := q.atoms.length) (Nat.le_refl _)).1
  have HTL := hide (fun i => trialsI_le (q := q) (data := data) (i := i))
  have HTN := hide (fun i a (h : q.atoms[i]? = some a) => trialsI_next (q := q) (data := data) (i := i) h)
  have HPG := hide (fun i a (h : q.atoms[i]? = some a) => partsI_grow (q := q) (data := data) (i := i) h)
  have HPF := hide (fun i => partsI_full (q := q) (data := data) (i := i))
  have HPN := hide (fun i a (h : q.atoms[i]? = some a) => walk_next (q := q) (data := data) (i := i) h)
  have HP0 := hide (show partsI q data 0 = [[]] ∧ trialsI q data 0 = 0 from ⟨by simp [partsI, partsN], by simp [trialsI, trialsN]⟩)
  generalize varsQ q = vs at *
  generalize leavesQ q data = lv at *
  generalize costP q data = co at *
  generalize partsI q data = ps at *
  generalize trialsI q data = tr at *
  obtain ⟨nm, hd, as_⟩ := q
  obtain ⟨A, n, cA, AB, k, d⟩ := L
  simp only [qval] at *
  obtain rfl : k = as_.length := HKL.out
  obtain ⟨i0, hi0, hz0, hz1, hz2⟩ := info_parts infoV
  have hmk := run_make_n (P := Try.prog) 35 58 i0 _ Try.underlying35 hi0 hz0 (by omega) .i64 .i64 vs.length (by omega)
  simp only [hz1, Value.cells] at hmk
  clear hz1 hz2 hz0 hi0
  have HBk := hide (Blk.new w 25 #[.string nm, .slice A n cA, .slice AB as_.length d])
  have HE := hide (Ext.alloc w (.cells #[.string nm, .slice A n cA, .slice AB as_.length d] 25))
  generalize hW : w.alloc (.cells #[.string nm, .slice A n cA, .slice AB as_.length d] 25) = W at *
  have HW := hide hW; clear hW
  have a0 : W.cell? ⟨w.heap.size, 0, none⟩ = some (.string nm) := HBk.out.cell 0
  have a1 : W.cell? ⟨w.heap.size, 1, none⟩ = some (.slice A n cA) := HBk.out.cell 1
  have a2 : W.cell? ⟨w.heap.size, 2, none⟩ = some (.slice AB as_.length d) := HBk.out.cell 2
  go_enter Try.func51, Try.ntmps51
  go_wp2_with (rw [HW.out]; (with_reducible refine (HVS.out _ HE.out).mono ?_); rintro e w3 ⟨A3, c3, rfl, o3, x3⟩; have X3 := hide x3; clear o3 x3 a0 a1 a2)
  have HN60 := hide h60
  have HBq := hide (HBk.out.ext X3.out)
  have XW3 := hide (HE.out.trans X3.out)
  have HI0 := hide (show LAt (RPart 0) 2 ((w3.alloc (.cells (madeCells #[Value.int .i64 0, Value.int .i64 0, Value.string .empty] (vs.length * 3)) 58)).alloc (.cells #[.slice (some ⟨w3.heap.size, 0, none⟩) vs.length vs.length, .slice none 0 0] 102)) (some ⟨w3.heap.size + 1, 0, none⟩) 1 ((ps 0).map (fullV vs.length)) from by
    rw [HP0.out.1]
    have h1 := Blk.new w3 58 (madeCells #[Value.int .i64 0, Value.int .i64 0, Value.string .empty] (vs.length * 3))
    generalize hw4 : w3.alloc (.cells (madeCells #[Value.int .i64 0, Value.int .i64 0, Value.string .empty] (vs.length * 3)) 58) = w4 at *
    have hs4 : w4.heap.size = w3.heap.size + 1 := by rw [← hw4]; simp
    rw [← hs4]
    have h2 := h1.ext (Ext.alloc w4 (.cells #[.slice (some ⟨w3.heap.size, 0, none⟩) vs.length vs.length, .slice none 0 0] 102))
    rw [zeroR_made] at h2
    refine ⟨rfl, [.slice (some ⟨w3.heap.size, 0, none⟩) vs.length vs.length, .slice none 0 0], Els.single (x := fullV vs.length []) rfl ?_ ⟨_, vs.length, _, none, 0, 0, [], rfl, ?_, NumAt.own (base := 0) (e := 3) (c := 0) (World.ownsRow_nil _ _ _ _), Nat.le_refl _⟩, (Blk.new w4 _ _).sl (n := 1) (size := 2) rfl⟩
    · intro v hv
      simp only [List.mem_cons, List.not_mem_nil, or_false] at hv
      rcases hv with rfl | rfl <;> rfl
    · have h3 := h2.sl (n := vs.length) (size := 3) (by simp [cellsR_len])
      have e : fullV vs.length [] = List.replicate vs.length zeroV := by simp [fullV]
      rw [e]
      exact ⟨by simp, h3⟩)
  go_loopw [7, 8, 9, 10, 11] (fun s7 s8 s9 _ _ w' => ∃ (i t : Nat) (A7 : Option Addr) (n7 c7 : Nat), i ≤ as_.length ∧ s9 = .int .i64 i ∧ s8 = .int .i64 t ∧ s7 = .slice A7 n7 c7 ∧ t ≤ 131072 ∧ Hid (t = tr i) ∧ Hid (n7 ≤ 131072) ∧ Hid (LAt (RPart i) 2 w' A7 n7 ((ps i).map (fullV vs.length))) ∧ Hid (Ext w3 w')) (fun _ _ s9 _ _ _ => as_.length - (intOf s9).toNat)
  case atStart => exact ⟨0, 0, _, 1, _, by omega, rfl, rfl, rfl, by omega, HP0.out.2.symm, (show (1 : Nat) ≤ 131072 by decide), HI0.out, (Ext.alloc _ _).alloc' _⟩
  case round =>
    clear HI0
    obtain ⟨i, t, A7, n7, c7, hin, rfl, rfl, rfl, ht, htr, hn7, hL, hX⟩ := hrel
    have a0 : wr.cell? ⟨w.heap.size, 0, none⟩ = some (.string nm) := (HBq.out.ext hX.out).cell 0
    have a1 : wr.cell? ⟨w.heap.size, 1, none⟩ = some (.slice A n cA) := (HBq.out.ext hX.out).cell 1
    have a2 : wr.cell? ⟨w.heap.size, 2, none⟩ = some (.slice AB as_.length d) := (HBq.out.ext hX.out).cell 2
    have h6 := HSIX.out
    by_cases h : i < as_.length
    · have ha : as_[i]? = some as_[i] := List.getElem?_eq_getElem h
      generalize as_[i] = a at ha
      have HTI := hide (HTN.out i a ha)
      have HPI := hide (show stepR ⟨a, rowsOfP data a.rel, (varsA a).map (atN vs)⟩ (addTs [] (flatT as_ i)).length ((ps i).map (fullV vs.length)) = (ps (i + 1)).map (fullV vs.length) from HPN.out i a ha)
      have HGI := hide (HPG.out i a ha)
      have HLEN := hide (show n7 = (ps i).length from by have := hL.out.len; rwa [List.length_map] at this)
      have hroom : ((131072 - t : Nat) : Int) = 131072 - (t : Int) := by omega
      have HSI := hide (fun w1 (h1 : Ext wr w1) => HST.out _ A7 n7 c7 i a (131072 - t) w1 (XW3.out.trans (hX.out.trans h1)) (hL.out.ext (RPart.stab i) h1) (HPF.out i) ha (by omega) hn7.out)
      rw [HPI.out, hroom, List.length_map] at HSI
      have HRM := hide hroom
      have HTL1 := hide (HTL.out (i + 1))
      clear ha hroom
      generalize (rowsOfP data a.rel).length = R at *
      generalize hpl : (ps i).length = pl at *
      obtain ⟨tn, htn⟩ : ∃ tn : Nat, pl * R = tn := ⟨_, rfl⟩
      have HTN1 := hide (show (pl : Int) * (R : Int) = tn from by rw [← htn]; simp)
      rw [htn] at HTI HGI
      by_cases hle : tn ≤ 131072 - t
      · have HSO := hide (fun w1 (h1 : Ext wr w1) => (HSI.out w1 h1).mono fun e w' h5 => step_ok HTN1.out hle (by rw [HRM.out]; exact h5))
        clear HSI
        have htle : ((t : Int) + (tn : Int)) ≤ 131072 := by omega
        have htle' : ¬ ((131072 : Int) < (t : Int) + (tn : Int)) := by omega
        go_wp2_with ((with_reducible refine (HSO.out _ (Ext.refl _)).mono ?_); rintro e w4 ⟨A9, c9, rfl, l9, x9⟩; have X9 := hide (hX.out.trans x9); rw [List.length_map] at l9; have L9 := hide l9; clear l9 x9 a0 a1 a2)
        go_roundw
        case rel => exact ⟨i + 1, t + tn, A9, _, c9, by omega, by go_num, by go_num, rfl, by omega, by rw [Hid, HTI.out, htr.out], (show _ ≤ 131072 by have := HGI.out; omega), L9.out, X9.out⟩
        case measure => simp [intOf]; omega
      · have HSN := hide (fun w1 (h1 : Ext wr w1) => (HSI.out w1 h1).mono fun e w' h5 => step_no HTN1.out hle (by rw [HRM.out]; exact h5))
        clear HSI
        go_wp2_with ((with_reducible refine (HSN.out _ (Ext.refl _)).mono ?_); rintro e w4 ⟨t9, g1, g2, rfl, x9⟩; have X9 := hide (hX.out.trans x9); clear x9 a0 a1 a2; have g3 : (131072 : Int) < (t : Int) + t9 := by omega)
        go_ret3
        exact RetWp.no (by have := HTL1.out; have := HTI.out; have := htr.out; omega) (XW3.out.trans X9.out)
    · obtain rfl : i = as_.length := by omega
      have hL2 := hL.out
      rw [show (ps as_.length).map (fullV vs.length) = lv from HDE.out] at hL2
      have HL2 := hide hL2; clear hL2
      have hl : n7 = lv.length := HL2.out.len
      subst hl
      go_wp2_with fail
      go_ret3
      have e1 : t = co := htr.out.trans HTE.out
      exact RetWp.yes (by omega) e1 hn7.out HL2.out (XW3.out.trans hX.out)
end Go.Proofs.Ytpfjkjmimmklcaa
