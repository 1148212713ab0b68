/- The typing calculus: cells that are not told; orders that meet; rows of rows; a row moved within itself. -/
import Derived.Test.YtocfnpnnbmicmaaDoorBase13
import Derived.Laws.CopyRow
set_option linter.unusedVariables false
set_option linter.unusedSimpArgs false
namespace Go.Proofs.YtocfnpnnbmicmaaDoor.Tc
open Go Go.RowKit

/-- A cell that is not told. -/
def Ty.any : Ty := ⟨fun _ _ v => v.oneCell' = true, fun h _ => h⟩
theorem one_any : Ty.any.One := fun _ _ _ h => h
theorem sub_any {T : Ty} (h : T.One) : Sub T Ty.any := h

section
variable {κ : Kx} {Q : Post} {Γ : Cx} {L : List Item} {ops : Array Oper} {rest l : List Oper} {hs : Hs}
variable {dst : Option Nat} {op : Op} {ty : TypeId} {pos : String} {after : Array Edge} {gd : Option (Nat × Bool)}
theorem DoesO.more {o : Oper} {C C' : Ty → List Item → Prop} (h : DoesO κ o Γ L C) (hc : ∀ T L', C T L' → C' T L') : DoesO κ o Γ L C' := fun a w s K Q hk =>
  h a w s K Q fun v w' T L' h1 h2 h3 h4 => hk v w' T L' h1 h2 h3 (hc T L' h4)
theorem AllP.more {α : Type} {P P' : α → Prop} (hc : ∀ x, P x → P' x) : ∀ {l : List α}, AllP P l → AllP P' l
  | [], _ => trivial
  | _ :: _, h => ⟨hc _ h.1, AllP.more hc h.2⟩
theorem chain_more {Ls : Two} {F F' : Cx → List Item → Prop} (hF : ∀ Γc L', F Γc L' → F' Γc L') : ∀ (f : Nat) (rem : List Nat) (Γc : Cx) (L : List Item), Chain κ l hs Γ Ls F f rem Γc L → Chain κ l hs Γ Ls F' f rem Γc L
  | 0, _, _, _, h => hF _ _ h
  | f + 1, rem, Γc, L, ⟨ns, hn, h⟩ => ⟨ns, hn, AllP.more (fun p ⟨o, h1, h2, h3⟩ => ⟨o, h1, h2, h3.more fun T L' ⟨h4, h5⟩ => ⟨h4, chain_more hF f _ _ _ h5⟩⟩) h⟩
/-- Whatever the order was, the rest goes on from one state. -/
theorem chain_meet {X : Type} {Ls : Two} {f : Nat} {rem : List Nat} {Γc : Cx} (G : X → Cx) (Lf : X → List Item) (hy : ∀ x, OkL κ ops Q rest (G x) (Lf x))
    (h : Chain κ l hs Γ Ls (fun Γc L' => ∃ x, Cov (zipH (Γc ++ Γ) hs) (G x) ∧ L'.Perm (Lf x)) f rem Γc L) : Chain κ l hs Γ Ls (fun Γc L' => OkL κ ops Q rest (zipH (Γc ++ Γ) hs) L') f rem Γc L :=
  chain_more (fun Γc L' ⟨x, hc, hp⟩ => fun a w s => hy x a w ((s.perm hp).cov hc)) _ _ _ _ h
end

/-! ### Items told otherwise -/
structure ItEq (A B : List Item) : Prop where
  same : ∀ b, foot A b ↔ foot B b
  keep : ∀ gl R w, Holds gl (A ++ R) w → Holds gl (B ++ R) w
theorem ItEq.le {A B : List Item} (h : ItEq A B) (R : List Item) (w : World) : Le (foot (A ++ R)) w (foot (B ++ R)) w := Le.of_iff w fun b hb => by
  rcases (foot_append _ _ b).1 hb with q | q
  · exact (foot_append _ _ b).2 (.inl ((h.same b).2 q))
  · exact (foot_append _ _ b).2 (.inr q)
theorem Sat.iteq {κ : Kx} {Γ : Cx} {A B R : List Item} {a : Act} {w : World} (h : ItEq A B) (s : Sat κ Γ (A ++ R) a w) : Sat κ Γ (B ++ R) a w :=
  ⟨s.defers, s.size, h.keep _ _ _ s.holds, s.le.trans (h.le R w), s.env.le (h.le R w)⟩

/-! ### Rows of rows -/
abbrev Apart (us : List Value) : Prop := us.Pairwise (fun a b => ∀ x, a.ownBlock = some x → b.ownBlock = some x → False)
structure RowsAt (us : List Value) (e : TypeId) (sz : Nat) (lss : List (List (List Ty))) (M : Fb) (w : World) : Prop where
  len : us.length = lss.length
  row : ∀ (i : Nat) (u : Value) (ess : List (List Ty)), us[i]? = some u → lss[i]? = some ess → RowAt u e sz ess M w
  apart : Apart us
def Item.rows (us : List Value) (e : TypeId) (sz : Nat) (lss : List (List (List Ty))) : Item :=
  ⟨fun b => ∃ u, u ∈ us ∧ u.ownBlock = some b, RowsAt us e sz lss,
   fun h ⟨u, hu, hb⟩ => by
    obtain ⟨i, hi⟩ := List.mem_iff_getElem?.1 hu
    have hl : i < lss.length := by rw [← h.len]; exact (List.getElem?_eq_some_iff.1 hi).1
    exact (Item.row u e sz _).lt (h.row i u _ hi (List.getElem?_eq_getElem hl)) hb,
   fun h hk hl => ⟨h.len, fun i u ess hu he => (Item.row u e sz ess).stable (h.row i u ess hu he) (fun b hb hf => hk b hb ⟨u, List.mem_of_getElem? hu, hf⟩) hl, h.apart⟩⟩
abbrev rowsL {α : Type} (us : List Value) (e : TypeId) (sz : Nat) (f : α → List Ty) (ls : List (List α)) : Item := Item.rows us e sz (ls.map (·.map f))
def lO (u : Value) : List Ty := [Ty.own u]

theorem perm_at {α : Type} {l : List α} {n : Nat} {x : α} (h : l[n]? = some x) : l.Perm (x :: l.eraseIdx n) := by
  induction l generalizing n with
  | nil => simp at h
  | cons y l ih =>
    cases n with
    | zero => simp at h; subst h; exact List.Perm.refl _
    | succ n => exact ((ih (by simpa using h)).cons y).trans (List.Perm.swap _ _ _)
theorem apart_sym {a b : Value} (h : ∀ x, a.ownBlock = some x → b.ownBlock = some x → False) : ∀ x, b.ownBlock = some x → a.ownBlock = some x → False := fun x hx hy => h x hy hx
theorem apart_perm {us vs : List Value} (h : Apart us) (hp : us.Perm vs) : Apart vs := (hp.pairwise_iff (fun {a b} hab => apart_sym hab)).1 h
theorem get_erase {α : Type} (l : List α) (i j : Nat) (h : j ≠ i) : l[j]? = (l.eraseIdx i)[if j < i then j else j - 1]? := by
  rw [List.getElem?_eraseIdx]
  by_cases hj : j < i
  · simp [hj]
  · have h1 : ¬ (j - 1 < i) := by omega
    have h2 : j - 1 + 1 = j := by omega
    simp [hj, h1, h2]
theorem open_eq {us : List Value} {e : TypeId} {sz : Nat} {lss : List (List (List Ty))} {i : Nat} {u : Value} {ess : List (List Ty)} (hu : us[i]? = some u) (he : lss[i]? = some ess) :
    ItEq [Item.rows us e sz lss] [Item.row u e sz ess, Item.rows (us.eraseIdx i) e sz (lss.eraseIdx i)] := by
  have hp := perm_at hu
  have hf : ∀ b, (Item.rows us e sz lss).foot b ↔ (Item.row u e sz ess).foot b ∨ (Item.rows (us.eraseIdx i) e sz (lss.eraseIdx i)).foot b := fun b => by
    constructor
    · rintro ⟨v, hv, hb⟩
      rcases List.mem_cons.1 (hp.mem_iff.1 hv) with rfl | q
      · exact .inl hb
      · exact .inr ⟨v, q, hb⟩
    · rintro (hb | ⟨v, hv, hb⟩)
      · exact ⟨u, List.mem_of_getElem? hu, hb⟩
      · exact ⟨v, hp.mem_iff.2 (List.mem_cons_of_mem _ hv), hb⟩
  have hfl : ∀ b, foot [Item.rows us e sz lss] b ↔ foot [Item.row u e sz ess, Item.rows (us.eraseIdx i) e sz (lss.eraseIdx i)] b := fun b => by
    simp only [foot_cons, hf b, or_assoc]
  refine ⟨hfl, fun gl R w h => ?_⟩
  have hle : Le (foot ([Item.rows us e sz lss] ++ R)) w (foot ([Item.row u e sz ess, Item.rows (us.eraseIdx i) e sz (lss.eraseIdx i)] ++ R)) w := Le.of_iff w fun b hb => by
    rcases (foot_append _ _ b).1 hb with q | q
    · exact (foot_append _ _ b).2 (.inl ((hfl b).2 q))
    · exact (foot_append _ _ b).2 (.inr q)
  have hr : RowsAt us e sz lss (foot ([Item.rows us e sz lss] ++ R)) w := h.each (Item.rows us e sz lss) (by simp)
  have hap := List.pairwise_cons.1 h.apart
  have hrow : RowAt u e sz ess (foot ([Item.row u e sz ess, Item.rows (us.eraseIdx i) e sz (lss.eraseIdx i)] ++ R)) w := (Item.row u e sz ess).stable (hr.row i u ess hu he) (fun _ _ _ => rfl) hle
  have hap2 := List.pairwise_cons.1 (apart_perm hr.apart hp)
  have hrows : RowsAt (us.eraseIdx i) e sz (lss.eraseIdx i) (foot ([Item.row u e sz ess, Item.rows (us.eraseIdx i) e sz (lss.eraseIdx i)] ++ R)) w := by
    have hiu := (List.getElem?_eq_some_iff.1 hu).1
    refine ⟨by rw [List.length_eraseIdx, List.length_eraseIdx, hr.len], fun j v vs hv hvs => ?_, hap2.2⟩
    rw [List.getElem?_eraseIdx] at hv hvs
    by_cases hj : j < i
    · rw [if_pos hj] at hv hvs
      exact (Item.row v e sz vs).stable (hr.row j v vs hv hvs) (fun _ _ _ => rfl) hle
    · rw [if_neg hj] at hv hvs
      exact (Item.row v e sz vs).stable (hr.row (j + 1) v vs hv hvs) (fun _ _ _ => rfl) hle
  refine ⟨fun it hi => ?_, List.pairwise_cons.2 ⟨fun it hi b hb hb' => ?_, List.pairwise_cons.2 ⟨fun it hi b hb hb' => ?_, hap.2⟩⟩, fun g t hg => (h.glob g t hg).mono hle⟩
  · rcases List.mem_cons.1 hi with rfl | hi
    · exact hrow
    · rcases List.mem_cons.1 hi with rfl | hi
      · exact hrows
      · exact it.stable (h.each it (List.mem_cons_of_mem _ hi)) (fun _ _ _ => rfl) hle
  · rcases List.mem_cons.1 hi with rfl | hi
    · obtain ⟨v, hv, hb2⟩ := hb'
      exact hap2.1 v hv b hb hb2
    · exact hap.1 it hi b ((hf b).2 (.inl hb)) hb'
  · exact hap.1 it hi b ((hf b).2 (.inr hb)) hb'
theorem close_eq {us : List Value} {e : TypeId} {sz : Nat} {lss : List (List (List Ty))} {i : Nat} {u : Value} {ess : List (List Ty)} (hi : i < us.length) (hi2 : i < lss.length) :
    ItEq [Item.row u e sz ess, Item.rows (us.eraseIdx i) e sz (lss.eraseIdx i)] [Item.rows (us.set i u) e sz (lss.set i ess)] := by
  have hget : (us.set i u)[i]? = some u := by simp [hi]
  have her : (us.set i u).eraseIdx i = us.eraseIdx i := by
    apply List.ext_getElem?; intro j
    simp only [List.getElem?_eraseIdx, List.getElem?_set]
    by_cases hj : j < i
    · have : i ≠ j := by omega
      simp [hj, this]
    · have : i ≠ j + 1 := by omega
      simp [hj, this]
  have hp := perm_at hget
  rw [her] at hp
  have hf : ∀ b, (Item.rows (us.set i u) e sz (lss.set i ess)).foot b ↔ (Item.row u e sz ess).foot b ∨ (Item.rows (us.eraseIdx i) e sz (lss.eraseIdx i)).foot b := fun b => by
    constructor
    · rintro ⟨v, hv, hb⟩
      rcases List.mem_cons.1 (hp.mem_iff.1 hv) with rfl | q
      · exact .inl hb
      · exact .inr ⟨v, q, hb⟩
    · rintro (hb | ⟨v, hv, hb⟩)
      · exact ⟨u, hp.mem_iff.2 (by simp), hb⟩
      · exact ⟨v, hp.mem_iff.2 (List.mem_cons_of_mem _ hv), hb⟩
  have hfl : ∀ b, foot [Item.row u e sz ess, Item.rows (us.eraseIdx i) e sz (lss.eraseIdx i)] b ↔ foot [Item.rows (us.set i u) e sz (lss.set i ess)] b := fun b => by
    simp only [foot_cons, hf b, or_assoc]
  refine ⟨hfl, fun gl R w h => ?_⟩
  have hle : Le (foot ([Item.row u e sz ess, Item.rows (us.eraseIdx i) e sz (lss.eraseIdx i)] ++ R)) w (foot ([Item.rows (us.set i u) e sz (lss.set i ess)] ++ R)) w := Le.of_iff w fun b hb => by
    rcases (foot_append _ _ b).1 hb with q | q
    · exact (foot_append _ _ b).2 (.inl ((hfl b).2 q))
    · exact (foot_append _ _ b).2 (.inr q)
  have hrow : RowAt u e sz ess (foot ([Item.row u e sz ess, Item.rows (us.eraseIdx i) e sz (lss.eraseIdx i)] ++ R)) w := h.each (Item.row u e sz ess) (by simp)
  have hrows : RowsAt (us.eraseIdx i) e sz (lss.eraseIdx i) (foot ([Item.row u e sz ess, Item.rows (us.eraseIdx i) e sz (lss.eraseIdx i)] ++ R)) w := h.each (Item.rows (us.eraseIdx i) e sz (lss.eraseIdx i)) (by simp)
  have hap := List.pairwise_cons.1 h.apart
  have hap2 := List.pairwise_cons.1 hap.2
  have hlen : us.length = lss.length := by
    have := hrows.len
    rw [List.length_eraseIdx, List.length_eraseIdx, if_pos hi, if_pos hi2] at this
    omega
  refine ⟨fun it hit => ?_, List.pairwise_cons.2 ⟨fun it hit b hb hb' => ?_, hap2.2⟩, fun g t hg => (h.glob g t hg).mono hle⟩
  · rcases List.mem_cons.1 hit with rfl | hit
    · have hl2 : (us.set i u).length = (lss.set i ess).length := by simp [hlen]
      refine ⟨hl2, fun j v vs hv hvs => ?_, apart_perm (us := u :: us.eraseIdx i) (List.pairwise_cons.2 ⟨fun v hv b hb hb' => ?_, hrows.apart⟩) hp.symm⟩
      · by_cases hji : j = i
        · subst hji
          rw [hget] at hv; cases hv
          have hjl : j < lss.length := by
            have := (List.getElem?_eq_some_iff.1 hvs).1
            simpa using this
          have : (lss.set j ess)[j]? = some ess := by simp [hjl]
          rw [this] at hvs; cases hvs
          exact (Item.row u e sz ess).stable hrow (fun _ _ _ => rfl) hle
        · rw [List.getElem?_set_ne (fun q => hji q.symm), get_erase us i j hji] at hv
          rw [List.getElem?_set_ne (fun q => hji q.symm), get_erase lss i j hji] at hvs
          exact (Item.row v e sz vs).stable (hrows.row _ v vs hv hvs) (fun _ _ _ => rfl) hle
      · exact hap.1 (Item.rows (us.eraseIdx i) e sz (lss.eraseIdx i)) (by simp) b hb ⟨v, hv, hb'⟩
    · exact it.stable (h.each it (by simp; exact .inr (.inr hit))) (fun _ _ _ => rfl) hle
  · rcases (hf b).1 hb with q | q
    · exact hap.1 it (List.mem_cons_of_mem _ hit) b q hb'
    · exact hap2.1 it hit b q hb'

section
variable {κ : Kx} {Q : Post} {Γ : Cx} {L R : List Item} {ops : Array Oper} {rest l : List Oper}
variable {dst : Option Nat} {op : Op} {ty : TypeId} {pos : String} {after : Array Edge} {gd : Option (Nat × Bool)}
section
variable {α : Type} {us : List Value} {e : TypeId} {sz : Nat} {f : α → List Ty} {ls : List (List α)}
theorem map_set_rows (f : α → List Ty) (ls : List (List α)) (i : Nat) (y : List α) : (ls.map (·.map f)).set i (y.map f) = (ls.set i y).map (·.map f) := by
  rw [List.map_set]
theorem map_erase_rows (f : α → List Ty) (ls : List (List α)) (i : Nat) : (ls.map (·.map f)).eraseIdx i = (ls.eraseIdx i).map (·.map f) := by
  apply List.ext_getElem?; intro j
  simp only [List.getElem?_eraseIdx, List.getElem?_map]
  split <;> rfl
theorem Sat.openR {a : Act} {w : World} {m : Int} {y : List α} (hl : idx ls m = some y) (hp : L.Perm (rowsL us e sz f ls :: R)) (s : Sat κ Γ L a w) : ∃ u, idx us m = some u ∧ Sat κ Γ (rowL u e sz f y :: rowsL (us.eraseIdx m.toNat) e sz f (ls.eraseIdx m.toNat) :: R) a w := by
  have s1 := s.perm hp
  obtain ⟨h0, h1, h2⟩ := idx_some hl
  have hr : RowsAt us e sz (ls.map (·.map f)) (foot (rowsL us e sz f ls :: R)) w := s1.holds.each (rowsL us e sz f ls) (by simp)
  have hlen := hr.len
  rw [List.length_map] at hlen
  have hu : us[m.toNat]? = some (us[m.toNat]'(by omega)) := List.getElem?_eq_getElem (by omega)
  refine ⟨_, by unfold idx; rw [if_pos h0]; exact hu, ?_⟩
  have := Sat.iteq (R := R) (open_eq (e := e) (sz := sz) (lss := ls.map (·.map f)) hu (ess := y.map f) (by simp [h2])) s1
  rw [map_erase_rows] at this
  exact this
theorem Sat.closeR {a : Act} {w : World} {m : Int} {y y' : List α} {u u' : Value} (hl : idx ls m = some y) (hu : idx us m = some u) (hp : L.Perm (rowL u' e sz f y' :: rowsL (us.eraseIdx m.toNat) e sz f (ls.eraseIdx m.toNat) :: R)) (s : Sat κ Γ L a w) : Sat κ Γ (rowsL (us.set m.toNat u') e sz f (ls.set m.toNat y') :: R) a w := by
  have s1 := s.perm hp
  obtain ⟨h0, h1, h2⟩ := idx_some hl
  obtain ⟨_, h3, _⟩ := idx_some hu
  have hq := close_eq (us := us) (e := e) (sz := sz) (lss := ls.map (·.map f)) (i := m.toNat) (u := u') (ess := y'.map f) (by omega) (by simp; omega)
  rw [map_set_rows, map_erase_rows] at hq
  exact Sat.iteq (R := R) hq s1
theorem set_same {us : List Value} {m : Int} {u : Value} (hu : idx us m = some u) : us.set m.toNat u = us := by
  obtain ⟨_, _, h⟩ := idx_some hu
  apply List.ext_getElem?; intro j
  rw [List.getElem?_set]
  split
  · rename_i hj; subst hj; rw [h]; split <;> simp_all
  · rfl
theorem okL_open {m : Int} {y : List α} (hl : idx ls m = some y) (hp : L.Perm (rowsL us e sz f ls :: R)) (h : ∀ u, idx us m = some u → OkL κ ops Q rest Γ (rowL u e sz f y :: rowsL (us.eraseIdx m.toNat) e sz f (ls.eraseIdx m.toNat) :: R)) : OkL κ ops Q rest Γ L := fun a w s => by
  obtain ⟨u, hu, s2⟩ := s.openR hl hp
  exact h u hu a w s2
theorem okC_open {c : Code} {m : Int} {y : List α} (hl : idx ls m = some y) (hp : L.Perm (rowsL us e sz f ls :: R)) (h : ∀ u, idx us m = some u → OkC κ c Q Γ (rowL u e sz f y :: rowsL (us.eraseIdx m.toNat) e sz f (ls.eraseIdx m.toNat) :: R)) : OkC κ c Q Γ L := fun a w s => by
  obtain ⟨u, hu, s2⟩ := s.openR hl hp
  exact h u hu a w s2
theorem okL_close {m : Int} {y y' : List α} {u : Value} (hl : idx ls m = some y) (hu : idx us m = some u) (hp : L.Perm (rowL u e sz f y' :: rowsL (us.eraseIdx m.toNat) e sz f (ls.eraseIdx m.toNat) :: R)) (h : OkL κ ops Q rest Γ (rowsL us e sz f (ls.set m.toNat y') :: R)) : OkL κ ops Q rest Γ L := fun a w s => by
  have s2 := s.closeR hl hu hp
  rw [set_same hu] at s2
  exact h a w s2
theorem okL_close2 {m : Int} {y y' : List α} {u u' : Value} (hl : idx ls m = some y) (hu : idx us m = some u) (hp : L.Perm (rowL u' e sz f y' :: rowsL (us.eraseIdx m.toNat) e sz f (ls.eraseIdx m.toNat) :: R)) (h : OkL κ ops Q rest Γ (rowsL (us.set m.toNat u') e sz f (ls.set m.toNat y') :: R)) : OkL κ ops Q rest Γ L := fun a w s => h a w (s.closeR hl hu hp)
theorem okX_close {c : Exit} {m : Int} {y y' : List α} {u : Value} (hl : idx ls m = some y) (hu : idx us m = some u) (hp : L.Perm (rowL u e sz f y' :: rowsL (us.eraseIdx m.toNat) e sz f (ls.eraseIdx m.toNat) :: R)) (h : OkX κ Q c Γ (rowsL us e sz f (ls.set m.toNat y') :: R)) : OkX κ Q c Γ L := fun a w s => by
  have s2 := s.closeR hl hu hp
  rw [set_same hu] at s2
  exact h a w s2
theorem okX_close2 {c : Exit} {m : Int} {y y' : List α} {u u' : Value} (hl : idx ls m = some y) (hu : idx us m = some u) (hp : L.Perm (rowL u' e sz f y' :: rowsL (us.eraseIdx m.toNat) e sz f (ls.eraseIdx m.toNat) :: R)) (h : OkX κ Q c Γ (rowsL (us.set m.toNat u') e sz f (ls.set m.toNat y') :: R)) : OkX κ Q c Γ L := fun a w s => h a w (s.closeR hl hu hp)
theorem rows_len {a : Act} {w : World} (n : Nat) (hi : L[n]? = some (rowsL us e sz f ls)) (s : Sat κ Γ L a w) : us.length = ls.length := by
  have hr : RowsAt us e sz (ls.map (·.map f)) (foot L) w := s.holds.each _ (List.mem_of_getElem? hi)
  have := hr.len
  rwa [List.length_map] at this
theorem okL_rowsLen (n : Nat) (hi : L[n]? = some (rowsL us e sz f ls)) (h : us.length = ls.length → OkL κ ops Q rest Γ L) : OkL κ ops Q rest Γ L := fun a w s => h (rows_len n hi s) a w s
theorem okC_rowsLen {c : Code} (n : Nat) (hi : L[n]? = some (rowsL us e sz f ls)) (h : us.length = ls.length → OkC κ c Q Γ L) : OkC κ c Q Γ L := fun a w s => h (rows_len n hi s) a w s
theorem nilrows (n e sz : Nat) (f : α → List Ty) (M : Fb) (w : World) : (rowsL (List.replicate n (.slice none 0 0)) e sz f (List.replicate n [])).hold M w :=
  ⟨by simp, fun i u ess hu he => by
    have h1 : u = .slice none 0 0 := List.eq_of_mem_replicate (List.mem_of_getElem? hu)
    simp only [List.map_replicate, List.map_nil] at he
    have h2 : ess = [] := List.eq_of_mem_replicate (List.mem_of_getElem? he)
    exact .inl ⟨h1, h2⟩,
   List.pairwise_replicate.2 (.inr fun x hx => by simp [Value.ownBlock] at hx)⟩
/-- make([][]T, n): rows of rows, all empty. -/
theorem doesO_makeM {C : Ty → List Item → Prop} {t e2 : TypeId} {bytes : Nat} {n1 n2 : Operand} {k1 k2 : IntKind} {m : Int} (f : α → List Ty) (e sz : Nat) (hE : ElTy κ.P t e2 (.slice none 0 0) 1 bytes) (r : List (List α)) (hr : mk bytes m [] = some r) (h1 : opTy Γ n1 = some (tK k1 m)) (h2 : opTy Γ n2 = some (tK k2 m))
    (h : ∀ v us, C (Ty.own v) (rowL v e2 1 lO us :: rowsL us e sz f r :: L)) : DoesO κ ⟨dst, .makeSlice t n1 n2, ty, pos, after, gd⟩ Γ L C := by
  have hr' : mk bytes m (Value.slice none 0 0) = some (List.replicate m.toNat (.slice none 0 0)) ∧ r = List.replicate m.toNat [] := by
    unfold mk at hr ⊢
    split at hr
    · cases hr; rename_i hb; rw [if_pos hb]; exact ⟨rfl, rfl⟩
    · cases hr
  have hz : PartTy (Ty.val (.slice none 0 0)) (lO (.slice none 0 0)) := part_sub (part_one (one_val rfl)) (.cons (fun _ _ v hv => by cases hv; exact ⟨rfl, rfl⟩) .nil)
  intro a w s K Q hk
  refine doesO_make (f := lO) (Γ := Γ) (L := L) (C := fun T L' => ∃ v, T = Ty.own v ∧ L' = rowL v e2 1 lO (List.replicate m.toNat (.slice none 0 0)) :: L) hE (.slice none 0 0) _ hr'.1 h1 h2 hz (fun v => ⟨v, rfl, rfl⟩) a w s K Q ?_
  rintro v w' T L' hh hl hv ⟨u, rfl, rfl⟩
  have hn := Holds.new (i' := rowsL (List.replicate m.toNat (.slice none 0 0)) e sz f r) hh (Nat.le_refl _) rfl rfl rfl (fun _ _ => rfl) (fun b ⟨x, hx, hb⟩ => by
    rw [List.eq_of_mem_replicate hx] at hb; simp [Value.ownBlock] at hb) (fun M _ _ _ => by rw [hr'.2]; exact nilrows _ _ _ _ _ _)
  have hp : (rowsL (List.replicate m.toNat (.slice none 0 0)) e sz f r :: rowL u e2 1 lO (List.replicate m.toNat (.slice none 0 0)) :: L).Perm (rowL u e2 1 lO (List.replicate m.toNat (.slice none 0 0)) :: rowsL (List.replicate m.toNat (.slice none 0 0)) e sz f r :: L) := List.Perm.swap _ _ _
  exact hk v w' _ _ (hn.1.perm hp) ((hl.trans hn.2).trans (le_perm hp w')) hv (h u _)
/-- Rows of rows become slices that are only read. -/
theorem Sat.publishM {a : Act} {w : World} {v : Value} {e2 : TypeId} (ts : List Nat) (hp : L.Perm (rowL v e2 1 lO us :: rowsL us e sz f ls :: R)) (ht : AllOwn Γ v ts) (s : Sat κ Γ L a w) : Sat κ (retype (Ty.slice 1 (ls.map fun l => [Ty.slice sz (l.map f)])) ts Γ) R a w := by
  have s1 := s.perm hp
  have hap := List.pairwise_cons.1 s1.holds.apart
  have hap2 := List.pairwise_cons.1 hap.2
  have hle : Le (foot (rowL v e2 1 lO us :: rowsL us e sz f ls :: R)) w (foot R) w := Le.of_iff w fun b hb => (foot_cons _ _ b).2 (.inr ((foot_cons _ _ b).2 (.inr hb)))
  have hout : RowAt v e2 1 (us.map lO) (foot (rowL v e2 1 lO us :: rowsL us e sz f ls :: R)) w := s1.holds.each (rowL v e2 1 lO us) (by simp)
  have hin : RowsAt us e sz (ls.map (·.map f)) (foot (rowL v e2 1 lO us :: rowsL us e sz f ls :: R)) w := s1.holds.each (rowsL us e sz f ls) (by simp)
  have hlen := hin.len
  rw [List.length_map] at hlen
  have hsl : (Ty.slice 1 (ls.map fun l => [Ty.slice sz (l.map f)])).holds (foot R) w v := by
    rcases hout with ⟨rfl, h0⟩ | ⟨g, cap, cur, rfl, hg, h1, h2, h3, h4⟩
    · have : us = [] := by simpa using h0
      subst this
      have : ls = [] := List.eq_nil_of_length_eq_zero (by simpa using hlen.symm)
      subst this
      exact ⟨none, 0, rfl, Nat.le_refl _, fun i es hi => by simp at hi⟩
    · simp only [List.length_map] at h1
      refine ⟨some ⟨g, 0, none⟩, cap, by simp [hlen], by simp; omega, fun i es hi => ?_⟩
      simp only [List.getElem?_map, Option.map_eq_some_iff] at hi
      obtain ⟨y, hy, rfl⟩ := hi
      refine ⟨rfl, _, rfl, fun j T hT => ⟨?_, ?_⟩⟩
      · rw [add_block]
        rintro ⟨it, hit, hf⟩
        exact hap.1 it (List.mem_cons_of_mem _ hit) g rfl hf
      · have hiu : i < us.length := by rw [hlen]; exact (List.getElem?_eq_some_iff.1 hy).1
        obtain ⟨_, h6⟩ := h4 i (lO us[i]) (by simp [hiu])
        have hj : j = 0 := by
          have := (List.getElem?_eq_some_iff.1 hT).1
          simp at this; exact this
        subst hj
        cases hT
        obtain ⟨u, hu, hu1, hu2⟩ := h6 0 (Ty.own us[i]) rfl
        have hu3 : u = us[i] := hu2.1
        subst hu3
        refine ⟨us[i], by rw [add_add, add_lit, blk_cell hg, Nat.zero_add]; exact hu, hu1, ?_⟩
        exact row_slice (hin.row i us[i] _ (List.getElem?_eq_getElem hiu) (by simp [hy])) hle (fun b hb ⟨it, hit, hf⟩ => hap2.1 it hit b ⟨us[i], List.getElem_mem hiu, hb⟩ hf)
  refine ⟨s1.defers, s1.size, s1.holds.tail.tail, s1.le.trans hle, env_retype ts (fun t h => ?_) (s1.env.le hle)⟩
  have := (s1.env t _ (ht.at t h)).1
  rw [this]
  exact hsl
theorem okX_publishM {c : Exit} {v : Value} {e2 : TypeId} (ts : List Nat) (hp : L.Perm (rowL v e2 1 lO us :: rowsL us e sz f ls :: R)) (ht : AllOwn Γ v ts) (h : OkX κ Q c (retype (Ty.slice 1 (ls.map fun l => [Ty.slice sz (l.map f)])) ts Γ) R) : OkX κ Q c Γ L := fun a w s => h a w (s.publishM ts hp ht)
theorem okL_publishM {v : Value} {e2 : TypeId} (ts : List Nat) (hp : L.Perm (rowL v e2 1 lO us :: rowsL us e sz f ls :: R)) (ht : AllOwn Γ v ts) (h : OkL κ ops Q rest (retype (Ty.slice 1 (ls.map fun l => [Ty.slice sz (l.map f)])) ts Γ) R) : OkL κ ops Q rest Γ L := fun a w s => h a w (s.publishM ts hp ht)
theorem okC_publishM {c : Code} {v : Value} {e2 : TypeId} (ts : List Nat) (hp : L.Perm (rowL v e2 1 lO us :: rowsL us e sz f ls :: R)) (ht : AllOwn Γ v ts) (h : OkC κ c Q (retype (Ty.slice 1 (ls.map fun l => [Ty.slice sz (l.map f)])) ts Γ) R) : OkC κ c Q Γ L := fun a w s => h a w (s.publishM ts hp ht)
end

/-! ### A part of a row, and a row moved within itself -/
def Ty.srow (v : Value) (o : Nat) : Ty := ⟨fun _ _ u => ∃ g n c, v = .slice (some ⟨g, 0, none⟩) n c ∧ u = .slice (some ⟨g, if c = o then 0 else o, none⟩) (n - o) (c - o), fun h _ => h⟩
section
variable {α : Type} {f : α → List Ty} {l : List α} {t e : TypeId} {x : Operand} {v : Value}
theorem does_subLoR {lo : Operand} {k : IntKind} {m : Int} (n : Nat) (r : List α) (hr : subLo l m = some r) (h0 : (!l.isEmpty) = true) (hu : κ.P.underlying t = some (.slice e)) (hsz : ∀ w, (sizeOf e).run κ.P w = .ok 1 w) (hx : opTy Γ x = some (Ty.own v)) (hi : L[n]? = some (rowL v e 1 f l)) (hl : opTy Γ lo = some (tK k m)) :
    Does κ ⟨dst, .slice t x (some lo) none none, ty, pos, after, gd⟩ Γ L (Ty.srow v m.toNat) :=
  does_of_run fun L' a w hs hh he => by
    have h1 : a.eval x = v := (opTy_holds he hx).1
    have hm : a.eval lo = .int k m := opTy_holds he hl
    have hrow : RowAt v e 1 (l.map f) (foot L') w := hh.each _ (hs _ (List.mem_of_getElem? hi))
    rcases hrow with ⟨rfl, h2⟩ | ⟨g, cap, cur, rfl, hg, h6, h7, h8, h9⟩
    · have : l = [] := by simpa using h2
      subst this; cases h0
    · unfold subLo at hr
      split at hr
      · rename_i hb
        simp only [List.length_map] at h1 h6
        by_cases hc : cap = m.toNat
        · refine ⟨.slice (some ⟨g, 0, none⟩) (l.length - m.toNat) (cap - m.toNat), ?_, g, _, _, rfl, by simp [hc]⟩
          simp [execOp, h1, hm, Instr.sliceAt, Instr.slice, run_underlying hu, Instr.sliceBounds, Instr.sliceBound, asIntOf, hb.1, hb.2, hsz, hc]
        · refine ⟨.slice (some ⟨g, m.toNat, none⟩) (l.length - m.toNat) (cap - m.toNat), ?_, g, _, _, rfl, by simp [hc]⟩
          simp [execOp, h1, hm, Instr.sliceAt, Instr.slice, run_underlying hu, Instr.sliceBounds, Instr.sliceBound, asIntOf, hb.1, hb.2, hsz, hc, add_lit]
      · cases hr
/-- copy(xs[i:], xs[j:]) -/
def cpy {α : Type} (l : List α) (i j : Nat) : List α := l.take i ++ (l.drop j).take (min (l.length - j) (l.length - i)) ++ l.drop (i + min (l.length - j) (l.length - i))
theorem doesO_copyR {C : Ty → List Item → Prop} {bytes : Nat} {z : Value} {y : Operand} {i j : Nat} (n : Nat) (r : List α) (L' : List Item) (hr : r = cpy l i j) (hij : (decide (i ≤ l.length) && decide (j ≤ l.length)) = true) (hE : ElTy κ.P t e z 1 bytes) (hx : opTy Γ x = some (Ty.srow v i)) (hy : opTy Γ y = some (Ty.srow v j)) (hi : L[n]? = some (rowL v e 1 f l))
    (hL : L' = L.set n (rowL v e 1 f r)) (h : C (tI (min (l.length - j) (l.length - i) : Nat)) L') : DoesO κ ⟨dst, .call ⟨.builtin .copy, #[x, y], #[t, t]⟩, ty, pos, after, gd⟩ Γ L C :=
  doesO_run fun a w s => by
    subst hr hL
    obtain ⟨g, n1, c1, hv, h1⟩ := opTy_holds s.env hx
    obtain ⟨g2, n2, c2, hv2, h2⟩ := opTy_holds s.env hy
    rw [hv] at hv2; cases hv2
    simp only [Bool.and_eq_true, decide_eq_true_eq] at hij
    have hrow : RowAt v e 1 (l.map f) (foot L) w := s.holds.each _ (List.mem_of_getElem? hi)
    rcases hrow with ⟨rfl, _⟩ | ⟨g', cap, cur, hv', hg, h6, h7, h8, h9⟩
    · cases hv
    · rw [hv'] at hv; cases hv
      simp only [List.length_map, Nat.mul_one] at h1 h2 h6 h8
      have hsz : (κ.P.info? e).map (·.size) = some 1 := by
        obtain ⟨q, hq, _, h3, _⟩ := hE.info
        simp [hq, h3]
      generalize hmm : min (l.length - j) (l.length - i) = mm at h ⊢
      -- what is copied
      have hcs1 : ∀ k u, ((cur.toList.drop j).take mm)[k]? = some u → k < mm ∧ cur[j + k]? = some u := fun k u hu => by
        rw [List.getElem?_take] at hu
        split at hu
        · rw [List.getElem?_drop] at hu; exact ⟨by assumption, by simpa using hu⟩
        · cases hu
      have hlen : ((cur.toList.drop j).take mm).length = mm := by simp; omega
      have hel1 : ∀ k, k < l.length → ∃ u, cur[k]? = some u ∧ u.oneCell' = true := fun k hk => by
        obtain ⟨h10, h11⟩ := h9 k (f l[k]) (by simp [hk])
        obtain ⟨T, hT⟩ : ∃ T, (f l[k])[0]? = some T := ⟨(f l[k])[0]'(by omega), List.getElem?_eq_getElem _⟩
        obtain ⟨u, hu, hu1, _⟩ := h11 0 T hT
        exact ⟨u, by simpa using hu, hu1⟩
      have hone : ∀ u ∈ (cur.toList.drop j).take mm, u.oneCell' = true := fun u hu => by
        obtain ⟨k, hk⟩ := List.mem_iff_getElem?.1 hu
        obtain ⟨h10, h11⟩ := hcs1 k u hk
        obtain ⟨u', hu', h12⟩ := hel1 (j + k) (by omega)
        rw [h11] at hu'; cases hu'; exact h12
      have hrun := run_copy_row (P := κ.P) w t t ty e g (if c1 = i then 0 else i) (l.length - i) (c1 - i) ⟨g, if c1 = j then 0 else j, none⟩ (l.length - j) (c1 - j) cur e ((cur.toList.drop j).take mm) hE.sl hsz hg (by rw [hlen, ← hmm])
        (fun k u hu => by
          obtain ⟨h10, h11⟩ := hcs1 k u hu
          have : ¬ c1 = j := by omega
          rw [if_neg this, add_lit, blk_cell hg]; exact h11)
        (by rw [hlen]; split <;> omega) hone
      rw [hlen] at hrun
      generalize hcur : (cur.toList.take (if c1 = i then 0 else i) ++ (cur.toList.drop j).take mm ++ cur.toList.drop ((if c1 = i then 0 else i) + mm)).toArray = cur2 at hrun
      have hget : ∀ k, cur2[k]? = if k < i then cur[k]? else if k < i + mm then cur[j + (k - i)]? else cur[k]? := fun k => by
        rw [← hcur]
        simp only [List.append_assoc, List.getElem?_toArray]
        by_cases hci : c1 = i
        · have hm0 : mm = 0 := by omega
          subst hm0
          rw [if_pos hci]
          simp
          intro h; omega
        · rw [if_neg hci]
          have hto : (cur.toList.take i).length = i := by simp; omega
          rw [List.getElem?_append, hto]
          split
          · rename_i hk; rw [List.getElem?_take, if_pos hk]; simp
          · rename_i hk
            rw [List.getElem?_append, hlen]
            split
            · rename_i hk2
              rw [if_pos (by omega), List.getElem?_take, if_pos hk2, List.getElem?_drop]; simp
            · rename_i hk2
              rw [if_neg (by omega), List.getElem?_drop, Array.getElem?_toList]; congr 1; omega
      have hlget : ∀ k, (cpy l i j)[k]? = if k < i then l[k]? else if k < i + mm then l[j + (k - i)]? else l[k]? := fun k => by
        unfold cpy
        rw [hmm]
        have hto : (l.take i).length = i := by simp; omega
        have hl2 : ((l.drop j).take mm).length = mm := by simp; omega
        rw [List.append_assoc, List.getElem?_append, hto]
        split
        · rename_i hk; rw [List.getElem?_take, if_pos hk]
        · rename_i hk
          rw [List.getElem?_append, hl2]
          split
          · rename_i hk2
            rw [if_pos (by omega), List.getElem?_take, if_pos hk2, List.getElem?_drop]
          · rename_i hk2
            rw [if_neg (by omega), List.getElem?_drop]; congr 1; omega
      have hrl : (cpy l i j).length = l.length := by unfold cpy; rw [hmm]; simp; omega
      have hw := s.holds.swapAt (i' := rowL v e 1 f (cpy l i j)) hi (w' := w.setRow g cur2) (by simp) rfl rfl rfl (fun b _ hb => setRow_other w g b _ (fun q => hb (by rw [q]; show v.ownBlock = some g; rw [hv']; rfl))) (fun b hb => .inl hb)
        (fun M hl => by
          refine .inr ⟨g, c1, cur2, by rw [hv']; simp [hrl], setRow_new hg, by simp [hrl]; omega, h7, by rw [← hcur]; simp; split <;> omega, fun k es hes => ?_⟩
          simp only [List.getElem?_map, Option.map_eq_some_iff] at hes
          obtain ⟨q, hq, rfl⟩ := hes
          rw [hlget] at hq
          have hsrc : ∃ k' : Nat, l[k']? = some q ∧ cur2[k]? = cur[k']? := by
            rw [hget]
            split at hq
            · rename_i hk; exact ⟨k, hq, by rw [if_pos hk]⟩
            · rename_i hk
              split at hq
              · rename_i hk2; exact ⟨_, hq, by rw [if_neg hk, if_pos hk2]⟩
              · rename_i hk2; exact ⟨k, hq, by rw [if_neg hk, if_neg hk2]⟩
          obtain ⟨k', hk', hcc⟩ := hsrc
          obtain ⟨h10, h11⟩ := h9 k' (f q) (by simp [hk'])
          refine ⟨h10, fun j' U hU => ?_⟩
          have hj0 : j' = 0 := by have := (List.getElem?_eq_some_iff.1 hU).1; omega
          subst hj0
          obtain ⟨u, hu, hu1, hu2⟩ := h11 0 U hU
          exact ⟨u, by simp only [Nat.mul_one, Nat.add_zero] at hu ⊢; rw [hcc]; exact hu, hu1, U.mono hu2 hl⟩)
      exact ⟨_, _, _, _, by simp [execOp, resolve, invoke, builtin, h1, h2, hrun, goInt], hw.1, hw.2, rfl, h⟩
end
end
end Go.Proofs.YtocfnpnnbmicmaaDoor.Tc
namespace Go.Proofs.YtocfnpnnbmicmaaDoor.Tc
open Go Go.RowKit
/-- A row that comes back is taken as a slice that is only read. -/
theorem callP_of_own {P : Program} {gl : Gl} {f : FuncId} {As : List Ty} {α : Type} {e : TypeId} {sz : Nat} {g : α → List Ty} {r : List α} (h : CallOk P gl f As [] Value (fun x => (Ty.own x, [rowL x e sz g r]))) : CallP P gl f As (tL sz g r) := fun L w vs hh ha => by
  refine (h L w vs hh ha).mono ?_
  rintro en w' ⟨v, x, rfl, h1, h2, h3⟩
  have hv : v = x := h3.1
  subst hv
  obtain ⟨h5, h6, h7⟩ := erase_facts (n := 0) (i := rowL v e sz g r) h1 rfl
  have hrow : RowAt v e sz (r.map g) (foot ([rowL v e sz g r] ++ L)) w' := h1.each (rowL v e sz g r) (by simp)
  exact ⟨v, (), rfl, h5, h2.trans h6, row_slice hrow h6 (fun b hb => h7 b hb)⟩
end Go.Proofs.YtocfnpnnbmicmaaDoor.Tc
