/- Ascending lists: the reference's Insert, Contains, Union, Minus. -/
import Derived.Test.YtocfnpnnbmicmaaDoorP0Rc
import Derived.Test.YtocfnpnnbmicmaaDoorXRc2
set_option linter.unusedVariables false
set_option linter.unusedSimpArgs false
namespace Go.Proofs.YtocfnpnnbmicmaaDoor.Tc
open Go

/-- Lengths that no machine can pass. -/
abbrev Sm {α : Type} (l : List α) : Prop := l.length ≤ 17592186044000
def Srt (l : List Int) : Prop := l.Pairwise (· < ·)
/-- n put into l. -/
def ins : List Int → Int → List Int
  | [], x => [x]
  | y :: l, x => if y < x then y :: ins l x else if y = x then y :: l else x :: y :: l
def uni (a b : List Int) : List Int := b.foldl ins a
def mns (a b : List Int) : List Int := a.filter (fun x => !b.contains x)
theorem mem_ins {l : List Int} {x y : Int} : y ∈ ins l x ↔ y = x ∨ y ∈ l := by
  induction l with
  | nil => simp [ins]
  | cons z l ih =>
    simp only [ins]
    split
    · simp only [List.mem_cons, ih]; constructor
      · rintro (h | h | h) <;> simp [h]
      · rintro (h | h | h) <;> simp [h]
    · split
      · rename_i h1 h2; subst h2; simp
      · simp
theorem srt_ins {l : List Int} {x : Int} (h : Srt l) : Srt (ins l x) := by
  induction l with
  | nil => simp [ins, Srt]
  | cons z l ih =>
    have h1 := List.pairwise_cons.1 h
    simp only [ins]
    split
    · rename_i hz
      refine List.pairwise_cons.2 ⟨fun y hy => ?_, ih h1.2⟩
      rcases mem_ins.1 hy with rfl | hy
      · exact hz
      · exact h1.1 y hy
    · split
      · exact h
      · rename_i h2 h3
        refine List.pairwise_cons.2 ⟨fun y hy => ?_, h⟩
        rcases List.mem_cons.1 hy with rfl | hy
        · omega
        · have := h1.1 y hy; omega
theorem srt_ext {a b : List Int} (ha : Srt a) (hb : Srt b) (h : ∀ x, x ∈ a ↔ x ∈ b) : a = b := by
  induction a generalizing b with
  | nil => cases b with
    | nil => rfl
    | cons y b => exact absurd ((h y).2 (by simp)) (by simp)
  | cons x a ih =>
    cases b with
    | nil => exact absurd ((h x).1 (by simp)) (by simp)
    | cons y b =>
      have h1 := List.pairwise_cons.1 ha
      have h2 := List.pairwise_cons.1 hb
      have hxy : x = y := by
        rcases List.mem_cons.1 ((h x).1 (by simp)) with e | e
        · exact e
        · rcases List.mem_cons.1 ((h y).2 (by simp)) with e2 | e2
          · exact e2.symm
          · have := h2.1 x e; have := h1.1 y e2; omega
      subst hxy
      congr 1
      refine ih h1.2 h2.2 fun z => ⟨fun hz => ?_, fun hz => ?_⟩
      · rcases List.mem_cons.1 ((h z).1 (by simp [hz])) with e | e
        · have := h1.1 z hz; omega
        · exact e
      · rcases List.mem_cons.1 ((h z).2 (by simp [hz])) with e | e
        · have := h2.1 z hz; omega
        · exact e
theorem mem_uni {a b : List Int} {y : Int} : y ∈ uni a b ↔ y ∈ a ∨ y ∈ b := by
  unfold uni
  induction b generalizing a with
  | nil => simp
  | cons z b ih =>
    simp only [List.foldl_cons, ih, mem_ins, List.mem_cons]
    constructor
    · rintro ((h | h) | h) <;> simp [h]
    · rintro (h | h | h) <;> simp [h]
theorem srt_uni {a b : List Int} (ha : Srt a) : Srt (uni a b) := by
  unfold uni
  induction b generalizing a with
  | nil => exact ha
  | cons z b ih => exact ih (srt_ins ha)
theorem mem_mns {a b : List Int} {y : Int} : y ∈ mns a b ↔ y ∈ a ∧ y ∉ b := by simp [mns]
theorem srt_mns {a b : List Int} (ha : Srt a) : Srt (mns a b) := List.Pairwise.filter _ ha
theorem len_ins (l : List Int) (x : Int) : (ins l x).length ≤ l.length + 1 := by
  induction l with
  | nil => simp [ins]
  | cons z l ih =>
    simp only [ins]
    split
    · simp; omega
    · split <;> simp
theorem len_uni (a b : List Int) : (uni a b).length ≤ a.length + b.length := by
  unfold uni
  induction b generalizing a with
  | nil => simp
  | cons z b ih =>
    have h1 := ih (ins a z)
    have h2 := len_ins a z
    simp only [List.foldl_cons, List.length_cons]; omega
/-- Ascending numbers from 0 to n are at most n many. -/
theorem srt_len {l : List Int} {n : Nat} (h : Srt l) (hr : ∀ x, x ∈ l → 0 ≤ x ∧ x < n) : l.length ≤ n := by
  have gen : ∀ (l : List Int) (m : Int), Srt l → (∀ x, x ∈ l → m ≤ x ∧ x < n) → (l.length : Int) ≤ max 0 (n - m) := by
    intro l
    induction l with
    | nil => intro m _ _; simp; omega
    | cons x l ih =>
      intro m h hr
      have h1 := List.pairwise_cons.1 h
      have h2 := hr x (by simp)
      have := ih (x + 1) h1.2 (fun y hy => ⟨by have := h1.1 y hy; omega, (hr y (by simp [hy])).2⟩)
      simp only [List.length_cons]; omega
  have := gen l 0 h hr
  omega

/-- How many from the front are below x. -/
def tw (l : List Int) (x : Int) : Nat := (l.takeWhile (fun y => decide (y < x))).length
theorem tw_le (l : List Int) (x : Int) : tw l x ≤ l.length := by
  unfold tw
  induction l with
  | nil => simp
  | cons y l ih => simp only [List.takeWhile_cons]; split <;> simp <;> omega
theorem ins_tw (l : List Int) (x : Int) : ins l x = if l[tw l x]? = some x then l else l.take (tw l x) ++ [x] ++ l.drop (tw l x) := by
  induction l with
  | nil => simp [ins, tw]
  | cons y l ih =>
    simp only [ins]
    by_cases h : y < x
    · have e : tw (y :: l) x = tw l x + 1 := by simp [tw, List.takeWhile_cons, h]
      rw [if_pos h, e, ih]
      simp only [List.getElem?_cons_succ, List.take_succ_cons, List.drop_succ_cons]
      split <;> simp
    · have e : tw (y :: l) x = 0 := by simp [tw, List.takeWhile_cons, h]
      rw [if_neg h, e]
      simp
theorem insert_l1 (K : Nat) {l : List Int} {x : Int} (hl : Sm l) : ∀ (m p : List Int) (k : Nat), l = p ++ m → m.length < k → ref29_Insert_l1 K l x k (p.length : Int) = some ((p.length + tw m x : Nat) : Int) := by
  intro m
  induction m with
  | nil =>
    intro p k h hk
    obtain ⟨k, rfl⟩ : ∃ j, k = j + 1 := ⟨k - 1, by omega⟩
    subst h
    simp [ref29_Insert_l1, cnd, tw]
  | cons y m ih =>
    intro p k h hk
    obtain ⟨k, rfl⟩ : ∃ j, k = j + 1 := ⟨k - 1, by omega⟩
    have hg : idx l (p.length : Int) = some y := idx_eq (by subst h; simp)
    have hlt : (p.length : Int) < (l.length : Int) := by subst h; simp; omega
    have hw : w64 ((p.length : Int) + 1) = ((p ++ [y]).length : Int) := by
      rw [w64_id (by omega) (by omega)]; simp
    simp only [ref29_Insert_l1, hlt, decide_true, cnd, hg, Option.bind_some]
    by_cases hy : y < x
    · simp only [hy, decide_true, hw]
      rw [ih (p ++ [y]) k (by subst h; simp) (by simp at hk; omega)]
      simp [tw, List.takeWhile_cons, hy]; omega
    · simp [hy, tw, List.takeWhile_cons]
theorem ev_insert {l : List Int} {x : Int} (hl : Sm l) : Ev (fun K _ => ref29_Insert K l x) (ins l x) := by
  have h1 : Ev (fun K _ => ref29_Insert_l1 K l x K 0) ((tw l x : Nat) : Int) := ⟨l.length + 1, fun K k hK _ => by
    have := insert_l1 K (x := x) hl l [] K rfl (by omega)
    simpa using this⟩
  have htl := tw_le l x
  unfold ref29_Insert
  refine Ev.bind h1 ?_
  refine Ev.bind (x := decide (l[tw l x]? = some x)) ?_ ?_
  · refine Ev.cnd (fun h => ?_) (fun h => ?_)
    · have hlt : tw l x < l.length := by simpa using h
      refine Ev.bindO (idx_get hlt) ((Ev.some _).cast ?_)
      rw [Bool.eq_iff_iff]; simp [List.getElem?_eq_getElem hlt]
    · refine (Ev.some _).cast ?_
      have : l[tw l x]? = none := List.getElem?_eq_none (by simpa using h)
      simp [this]
  · rw [ins_tw]
    refine Ev.cnd (fun h => (Ev.some _).cast (by rw [if_pos (of_decide_eq_true h)])) (fun h => ?_)
    rw [if_neg (of_decide_eq_false h)]
    refine Ev.bindO (subHi_eq htl) (Ev.bindO (app_eq ?_ ?_) (Ev.bindO (app_eq ?_ ?_) (Ev.bindO (subLo_eq htl) (Ev.bindO (app_eq ?_ ?_) ((Ev.some _).cast (by simp)))))) <;> simp <;> omega

theorem contains_l1 (K : Nat) {l : List Int} {x : Int} (hl : Sm l) : ∀ (m p : List Int) (k : Nat), l = p ++ m → m.length < k → ref32_Contains_l1 K l x k (p.length : Int) = some (if m.contains x then .inr true else .inl ()) := by
  intro m
  induction m with
  | nil =>
    intro p k h hk
    obtain ⟨k, rfl⟩ : ∃ j, k = j + 1 := ⟨k - 1, by omega⟩
    subst h
    simp [ref32_Contains_l1, cnd, inn]
  | cons y m ih =>
    intro p k h hk
    obtain ⟨k, rfl⟩ : ∃ j, k = j + 1 := ⟨k - 1, by omega⟩
    have hg : idx l (p.length : Int) = some y := idx_eq (by subst h; simp)
    have hlt : (p.length : Int) < (l.length : Int) := by subst h; simp; omega
    have hw : w64 ((p.length : Int) + 1) = ((p ++ [y]).length : Int) := by
      rw [w64_id (by omega) (by omega)]; simp
    simp only [ref32_Contains_l1, hlt, decide_true, cnd, hg, Option.bind_some]
    cases hy : y == x with
    | true =>
      have : y = x := by simpa using hy
      simp [out, this]
    | false =>
      have hne : ¬ y = x := by simpa using hy
      simp only [hw]
      rw [ih (p ++ [y]) k (by subst h; simp) (by simp at hk; omega)]
      have : ¬ x = y := fun e => hne e.symm
      simp [this]
theorem ev_contains {l : List Int} {x : Int} (hl : Sm l) : Ev (fun K _ => ref32_Contains K l x) (l.contains x) := by
  have h1 : Ev (fun K _ => ref32_Contains_l1 K l x K 0) (if l.contains x then .inr true else .inl ()) := ⟨l.length + 1, fun K k hK _ => by
    have := contains_l1 K (x := x) hl l [] K rfl (by omega)
    simpa using this⟩
  unfold ref32_Contains
  cases h : l.contains x with
  | true => rw [h] at h1; exact Ev.sqr h1
  | false => rw [h] at h1; exact Ev.sql h1 (Ev.some _)

theorem union_l1 {b : List Int} (hb : Sm b) : ∀ (m p a : List Int), b = p ++ m → Sm a → a.length + m.length ≤ 17592186044000 → Ev (fun K k => ref32_Union_l1 K b k (a, (p.length : Int))) (m.foldl ins a) := by
  intro m
  induction m with
  | nil =>
    intro p a h ha _
    refine Ev.step (fun K k => rfl) (Ev.f ?_ (Ev.some _))
    subst h; simp
  | cons y m ih =>
    intro p a h ha hs
    have hg : idx b (p.length : Int) = some y := idx_eq (by subst h; simp)
    have hlt : (p.length : Int) < (b.length : Int) := by subst h; simp; omega
    have hw : w64 ((p.length : Int) + 1) = ((p ++ [y]).length : Int) := by
      rw [w64_id (by omega) (by omega)]; simp
    have hln := len_ins a y
    simp only [List.length_cons] at hs
    refine Ev.step (fun K k => rfl) (Ev.t (by simpa using hlt) (Ev.bindO hg (Ev.bind (ev_insert ha) ?_)))
    show Ev (fun K k => ref32_Union_l1 K b k (ins a y, w64 ((p.length : Int) + 1))) _
    rw [hw]
    exact ih (p ++ [y]) (ins a y) (by subst h; simp) (by unfold Sm; omega) (by omega)
theorem ev_union {a b : List Int} (ha : Sm a) (hb : Sm b) (h : a.length + b.length ≤ 17592186044000) : Ev (fun K _ => ref32_Union K a b) (uni a b) := by
  unfold ref32_Union
  refine Ev.bindO (app_eq (by simp; unfold Sm at ha; omega) (by simp; unfold Sm at ha; omega)) (Ev.bind (Ev.loop ?_) (Ev.some _))
  exact union_l1 hb b [] a rfl ha h

theorem minus_l1 {a b : List Int} (ha : Sm a) (hb : Sm b) : ∀ (m p s : List Int), a = p ++ m → s.length + m.length ≤ 17592186044000 → Ev (fun K k => ref32_Minus_l1 K a b k ((p.length : Int), s)) (s ++ mns m b) := by
  intro m
  induction m with
  | nil =>
    intro p s h _
    refine Ev.step (fun K k => rfl) (Ev.f ?_ ((Ev.some _).cast (by simp [mns])))
    subst h; simp
  | cons y m ih =>
    intro p s h hs
    have hg : idx a (p.length : Int) = some y := idx_eq (by subst h; simp)
    have hlt : (p.length : Int) < (a.length : Int) := by subst h; simp; omega
    have hw : w64 ((p.length : Int) + 1) = ((p ++ [y]).length : Int) := by
      rw [w64_id (by omega) (by omega)]; simp
    simp only [List.length_cons] at hs
    refine Ev.step (fun K k => rfl) (Ev.t (by simpa using hlt) (Ev.bind (x := if b.contains y then s else s ++ [y]) (Ev.bindO hg (Ev.bind (ev_contains hb) ?_)) ?_))
    · cases hc : b.contains y with
      | true => exact Ev.f rfl (Ev.some _)
      | false => exact Ev.t rfl (Ev.bindO hg (Ev.bindO (app_eq (by simp; omega) (by simp; omega)) (Ev.some _)))
    · show Ev (fun K k => ref32_Minus_l1 K a b k (w64 ((p.length : Int) + 1), _)) _
      rw [hw]
      cases hc : b.contains y with
      | true =>
        refine (ih (p ++ [y]) s (by subst h; simp) (by omega)).cast ?_
        simp only [mns, List.filter_cons, hc]; simp
      | false =>
        refine (ih (p ++ [y]) (s ++ [y]) (by subst h; simp) (by simp; omega)).cast ?_
        simp only [mns, List.filter_cons, hc]; simp
theorem ev_minus {a b : List Int} (ha : Sm a) (hb : Sm b) : Ev (fun K _ => ref32_Minus K a b) (mns a b) := by
  unfold ref32_Minus
  refine Ev.bind (Ev.loop ?_) (Ev.some _)
  exact (minus_l1 ha hb a [] [] rfl (by simpa using ha)).cast (by simp)
end Go.Proofs.YtocfnpnnbmicmaaDoor.Tc
