/- The plain laws: what the pure functions come to. -/
import Derived.IntWalk
import Derived.Test.YtocfnpnnbmicmaaDoorZLm5
section
set_option linter.unusedVariables false
set_option linter.unusedSimpArgs false
namespace Go.Proofs.YtocfnpnnbmicmaaDoor.Tc
open Go
def Ev {α : Type} (f : Nat → Nat → Option α) (x : α) : Prop := ∃ N, ∀ K k, N ≤ K → N ≤ k → f K k = some x
section
variable {α β S R : Type}
theorem Ev.of {o : Option α} {x : α} (h : o = some x) : Ev (fun _ _ => o) x := ⟨0, fun _ _ _ _ => h⟩
theorem Ev.some (x : α) : Ev (fun _ _ => some x) x := ⟨0, fun _ _ _ _ => rfl⟩
theorem Ev.cast {f : Nat → Nat → Option α} {x y : α} (h : Ev f x) (e : x = y) : Ev f y := e ▸ h
theorem Ev.bind {f : Nat → Nat → Option α} {g : Nat → Nat → α → Option β} {x : α} {y : β} (hf : Ev f x) (hg : Ev (fun K k => g K k x) y) : Ev (fun K k => (f K k).bind (g K k)) y := by
 obtain ⟨m, hm⟩ := hf
 obtain ⟨n, hn⟩ := hg
 exact ⟨max m n, fun K k hK hk => by show (f K k).bind (g K k) = _; rw [hm K k (by omega) (by omega)]; exact hn K k (by omega) (by omega)⟩
theorem Ev.bindO {o : Option α} {g : Nat → Nat → α → Option β} {x : α} {y : β} (h : o = Option.some x) (hg : Ev (fun K k => g K k x) y) : Ev (fun K k => o.bind (g K k)) y := Ev.bind (Ev.of h) hg
theorem Ev.t {b : Bool} {f g : Nat → Nat → Option α} {x : α} (hb : b = true) (h : Ev f x) : Ev (fun K k => cnd b (f K k) (g K k)) x := by subst hb; exact h
theorem Ev.f {b : Bool} {f g : Nat → Nat → Option α} {x : α} (hb : b = false) (h : Ev g x) : Ev (fun K k => cnd b (f K k) (g K k)) x := by subst hb; exact h
theorem Ev.cnd {b : Bool} {f g : Nat → Nat → Option α} {x : α} (h1 : b = true → Ev f x) (h2 : b = false → Ev g x) : Ev (fun K k => Tc.cnd b (f K k) (g K k)) x := by
 cases b with
 | true => exact h1 rfl
 | false => exact h2 rfl
theorem Ev.ite {b : Bool} {f g : Nat → Nat → Option α} {x y : α} (h1 : b = true → Ev f x) (h2 : b = false → Ev g y) : Ev (fun K k => Tc.cnd b (f K k) (g K k)) (if b then x else y) := by
 cases b with
 | true => exact h1 rfl
 | false => exact h2 rfl
theorem Ev.guard {c : Bool} {f : Nat → Nat → Option α} {x : α} (hc : c = true) (h : Ev f x) : Ev (fun K k => guardO c (f K k)) x := Ev.t hc h
theorem Ev.sql {f : Nat → Nat → Option (S ⊕ R)} {g : Nat → Nat → S → Option R} {s : S} {y : R} (hf : Ev f (.inl s)) (hg : Ev (fun K k => g K k s) y) : Ev (fun K k => sq (f K k) (g K k)) y := Ev.bind hf hg
theorem Ev.sqr {f : Nat → Nat → Option (S ⊕ R)} {g : Nat → Nat → S → Option R} {y : R} (hf : Ev f (.inr y)) : Ev (fun K k => sq (f K k) (g K k)) y := Ev.bind hf (Ev.some y)
theorem Ev.out {f : Nat → Nat → Option R} {y : R} (hf : Ev f y) : Ev (fun K k => (out (f K k) : Option (S ⊕ R))) (.inr y) := by
 obtain ⟨n, hn⟩ := hf
 exact ⟨n, fun K k hK hk => by show Tc.out (f K k) = _; rw [hn K k hK hk]; rfl⟩
theorem Ev.inn (s : S) : Ev (fun _ _ => (inn s : Option (S ⊕ R))) (.inl s) := Ev.of rfl
theorem Ev.step {F : Nat → Nat → S → Option R} {s : S} {B : Nat → Nat → Option R} {r : R} (he : ∀ K k, F K (k + 1) s = B K k) (h : Ev B r) : Ev (fun K k => F K k s) r := by
 obtain ⟨n, hn⟩ := h
 refine ⟨n + 1, fun K k hK hk => ?_⟩
 obtain ⟨k, rfl⟩ : ∃ j, k = j + 1 := ⟨k - 1, by omega⟩
 show F K (k + 1) s = _
 rw [he]; exact hn K k (by omega) (by omega)
theorem Ev.loop {F : Nat → Nat → S → Option R} {s : S} {r : R} (h : Ev (fun K k => F K k s) r) : Ev (fun K _ => F K K s) r := by
 obtain ⟨n, hn⟩ := h
 exact ⟨n, fun K k hK hk => hn K K hK hK⟩
theorem Ev.fst {f : Nat → Option α} {x : α} (h : Ev (fun K _ => f K) x) : ∃ K, f K = Option.some x := by
 obtain ⟨n, hn⟩ := h
 exact ⟨n, hn n n (Nat.le_refl _) (Nat.le_refl _)⟩
theorem Ev.det {f : Nat → Nat → Option α} {x y : α} (h : Ev f x) (k : Ev f y) : x = y := by
 obtain ⟨m, hm⟩ := h
 obtain ⟨n, hn⟩ := k
 have h1 := hm (max m n) (max m n) (by omega) (by omega)
 have h2 := hn (max m n) (max m n) (by omega) (by omega)
 rw [h1] at h2; exact Option.some.inj h2
end
theorem w64_id {n : Int} (h1 : -9223372036854775808 ≤ n) (h2 : n ≤ 9223372036854775807) : w64 n = n := by
 exact IntWalk.i64_in _ (by omega)
theorem idx_eq {α : Type} {l : List α} {i : Nat} {x : α} (h : l[i]? = some x) : idx l (i : Int) = some x := by
 unfold idx; rw [if_pos (by omega)]; simpa using h
theorem idx_get {α : Type} {l : List α} {i : Nat} (h : i < l.length) : idx l (i : Int) = some l[i] := idx_eq (List.getElem?_eq_getElem h)
theorem app_eq {α : Type} {bytes : Nat} {xs ys : List α} (h1 : (xs.length + ys.length) * bytes ≤ 140737488355328) (h2 : xs.length + ys.length ≤ 281474976710656) : app bytes xs ys = some (xs ++ ys) := by
 unfold app; rw [if_pos ⟨h1, by simp only [maxLen]; omega⟩]
theorem subHi_eq {α : Type} {l : List α} {n : Nat} (h : n ≤ l.length) : subHi l (n : Int) = some (l.take n) := by
 unfold subHi; rw [if_pos (by omega)]; simp
theorem subLo_eq {α : Type} {l : List α} {n : Nat} (h : n ≤ l.length) : subLo l (n : Int) = some (l.drop n) := by
 unfold subLo; rw [if_pos (by omega)]; simp
theorem mk_eq {α : Type} {bytes : Nat} {n : Nat} {y : α} (h : bytes * n ≤ 281474976710656) (h2 : n ≤ 9223372036854775807) : mk bytes (n : Int) y = some (List.replicate n y) := by
 unfold mk; rw [if_pos ⟨by omega, by have h3 : ((bytes * n : Nat) : Int) ≤ ((281474976710656 : Nat) : Int) := Int.ofNat_le.2 h; rw [Int.natCast_mul] at h3; exact h3, by omega⟩, Int.toNat_natCast]
end Go.Proofs.YtocfnpnnbmicmaaDoor.Tc
end
section
set_option linter.unusedVariables false
set_option linter.unusedSimpArgs false
namespace Go.Proofs.YtocfnpnnbmicmaaDoor.Tc
open Go
abbrev Sm {α : Type} (l : List α) : Prop := l.length ≤ 17592186044000
def Srt (l : List Int) : Prop := l.Pairwise (· < ·)
def ins : List Int → Int → List Int
 | [], x => [x]
 | y :: l, x => if y < x then y :: ins l x else if y = x then y :: l else x :: y :: l
def uni (a b : List Int) : List Int := b.foldl ins a
def mns (a b : List Int) : List Int := a.filter (fun x => !b.contains x)
theorem mem_ins {l : List Int} {x y : Int} : y ∈ ins l x ↔ y = x ∨ y ∈ l := by
 induction l with
 | nil => simp [ins]
 | cons z l ih =>
  simp only [ins]
  split
  ·simp only [List.mem_cons, ih]; constructor
   ·rintro (h | h | h) <;> simp [h]
   ·rintro (h | h | h) <;> simp [h]
  ·split
   ·rename_i h1 h2; subst h2; simp
   ·simp
theorem srt_ins {l : List Int} {x : Int} (h : Srt l) : Srt (ins l x) := by
 induction l with
 | nil => simp [ins, Srt]
 | cons z l ih =>
  have h1 := List.pairwise_cons.1 h
  simp only [ins]
  split
  ·rename_i hz
   refine List.pairwise_cons.2 ⟨fun y hy => ?_, ih h1.2⟩
   rcases mem_ins.1 hy with rfl | hy
   ·exact hz
   ·exact h1.1 y hy
  ·split
   ·exact h
   ·rename_i h2 h3
    refine List.pairwise_cons.2 ⟨fun y hy => ?_, h⟩
    rcases List.mem_cons.1 hy with rfl | hy
    ·omega
    ·have := h1.1 y hy; omega
theorem srt_ext {a b : List Int} (ha : Srt a) (hb : Srt b) (h : ∀ x, x ∈ a ↔ x ∈ b) : a = b := by
 induction a generalizing b with
 | nil => cases b with
  | nil => rfl
  | cons y b => exact absurd ((h y).2 (by simp)) (by simp)
 | cons x a ih =>
  cases b with
  | nil => exact absurd ((h x).1 (by simp)) (by simp)
  | cons y b =>
   have h1 := List.pairwise_cons.1 ha
   have h2 := List.pairwise_cons.1 hb
   have hxy : x = y := by
    rcases List.mem_cons.1 ((h x).1 (by simp)) with e | e
    ·exact e
    ·rcases List.mem_cons.1 ((h y).2 (by simp)) with e2 | e2
     ·exact e2.symm
     ·have := h2.1 x e; have := h1.1 y e2; omega
   subst hxy
   congr 1
   refine ih h1.2 h2.2 fun z => ⟨fun hz => ?_, fun hz => ?_⟩
   ·rcases List.mem_cons.1 ((h z).1 (by simp [hz])) with e | e
    ·have := h1.1 z hz; omega
    ·exact e
   ·rcases List.mem_cons.1 ((h z).2 (by simp [hz])) with e | e
    ·have := h2.1 z hz; omega
    ·exact e
theorem mem_uni {a b : List Int} {y : Int} : y ∈ uni a b ↔ y ∈ a ∨ y ∈ b := by
 unfold uni
 induction b generalizing a with
 | nil => simp
 | cons z b ih =>
  simp only [List.foldl_cons, ih, mem_ins, List.mem_cons]
  constructor
  ·rintro ((h | h) | h) <;> simp [h]
  ·rintro (h | h | h) <;> simp [h]
theorem srt_uni {a b : List Int} (ha : Srt a) : Srt (uni a b) := by
 unfold uni
 induction b generalizing a with
 | nil => exact ha
 | cons z b ih => exact ih (srt_ins ha)
theorem mem_mns {a b : List Int} {y : Int} : y ∈ mns a b ↔ y ∈ a ∧ y ∉ b := by simp [mns]
theorem srt_mns {a b : List Int} (ha : Srt a) : Srt (mns a b) := List.Pairwise.filter _ ha
theorem len_ins (l : List Int) (x : Int) : (ins l x).length ≤ l.length + 1 := by
 induction l with
 | nil => simp [ins]
 | cons z l ih =>
  simp only [ins]
  split
  ·simp; omega
  ·split <;> simp
theorem len_uni (a b : List Int) : (uni a b).length ≤ a.length + b.length := by
 unfold uni
 induction b generalizing a with
 | nil => simp
 | cons z b ih =>
  have h1 := ih (ins a z)
  have h2 := len_ins a z
  simp only [List.foldl_cons, List.length_cons]; omega
theorem srt_len {l : List Int} {n : Nat} (h : Srt l) (hr : ∀ x, x ∈ l → 0 ≤ x ∧ x < n) : l.length ≤ n := by
 have gen : ∀ (l : List Int) (m : Int), Srt l → (∀ x, x ∈ l → m ≤ x ∧ x < n) → (l.length : Int) ≤ max 0 (n - m) := by
  intro l
  induction l with
  | nil => intro m _ _; simp; omega
  | cons x l ih =>
   intro m h hr
   have h1 := List.pairwise_cons.1 h
   have h2 := hr x (by simp)
   have := ih (x + 1) h1.2 (fun y hy => ⟨by have := h1.1 y hy; omega, (hr y (by simp [hy])).2⟩)
   simp only [List.length_cons]; omega
 have := gen l 0 h hr
 omega
def tw (l : List Int) (x : Int) : Nat := (l.takeWhile (fun y => decide (y < x))).length
theorem tw_le (l : List Int) (x : Int) : tw l x ≤ l.length := by
 unfold tw
 induction l with
 | nil => simp
 | cons y l ih => simp only [List.takeWhile_cons]; split <;> simp <;> omega
theorem ins_tw (l : List Int) (x : Int) : ins l x = if l[tw l x]? = some x then l else l.take (tw l x) ++ [x] ++ l.drop (tw l x) := by
 induction l with
 | nil => simp [ins, tw]
 | cons y l ih =>
  simp only [ins]
  by_cases h : y < x
  ·have e : tw (y :: l) x = tw l x + 1 := by simp [tw, List.takeWhile_cons, h]
   rw [if_pos h, e, ih]
   simp only [List.getElem?_cons_succ, List.take_succ_cons, List.drop_succ_cons]
   split <;> simp
  ·have e : tw (y :: l) x = 0 := by simp [tw, List.takeWhile_cons, h]
   rw [if_neg h, e]
   simp
theorem insert_l1 (K : Nat) {l : List Int} {x : Int} (hl : Sm l) : ∀ (m p : List Int) (k : Nat), l = p ++ m → m.length < k → ref29_Insert_l1 K l x k (p.length : Int) = some ((p.length + tw m x : Nat) : Int) := by
 intro m
 induction m with
 | nil =>
  intro p k h hk
  obtain ⟨k, rfl⟩ : ∃ j, k = j + 1 := ⟨k - 1, by omega⟩
  subst h
  simp [ref29_Insert_l1, cnd, tw]
 | cons y m ih =>
  intro p k h hk
  obtain ⟨k, rfl⟩ : ∃ j, k = j + 1 := ⟨k - 1, by omega⟩
  have hg : idx l (p.length : Int) = some y := idx_eq (by subst h; simp)
  have hlt : (p.length : Int) < (l.length : Int) := by subst h; simp; omega
  have hw : w64 ((p.length : Int) + 1) = ((p ++ [y]).length : Int) := by
   rw [w64_id (by omega) (by omega)]; simp
  simp only [ref29_Insert_l1, hlt, decide_true, cnd, hg, Option.bind_some]
  by_cases hy : y < x
  ·simp only [hy, decide_true, hw]
   rw [ih (p ++ [y]) k (by subst h; simp) (by simp at hk; omega)]
   simp [tw, List.takeWhile_cons, hy]; omega
  ·simp [hy, tw, List.takeWhile_cons]
theorem ev_insert {l : List Int} {x : Int} (hl : Sm l) : Ev (fun K _ => ref29_Insert K l x) (ins l x) := by
 have h1 : Ev (fun K _ => ref29_Insert_l1 K l x K 0) ((tw l x : Nat) : Int) := ⟨l.length + 1, fun K k hK _ => by
  have := insert_l1 K (x := x) hl l [] K rfl (by omega)
  simpa using this⟩
 have htl := tw_le l x
 unfold ref29_Insert
 refine Ev.bind h1 ?_
 refine Ev.bind (x := decide (l[tw l x]? = some x)) ?_ ?_
 ·refine Ev.cnd (fun h => ?_) (fun h => ?_)
  ·have hlt : tw l x < l.length := by simpa using h
   refine Ev.bindO (idx_get hlt) ((Ev.some _).cast ?_)
   rw [Bool.eq_iff_iff]; simp [List.getElem?_eq_getElem hlt]
  ·refine (Ev.some _).cast ?_
   have : l[tw l x]? = none := List.getElem?_eq_none (by simpa using h)
   simp [this]
 ·rw [ins_tw]
  refine Ev.cnd (fun h => (Ev.some _).cast (by rw [if_pos (of_decide_eq_true h)])) (fun h => ?_)
  rw [if_neg (of_decide_eq_false h)]
  refine Ev.bindO (subHi_eq htl) (Ev.bindO (app_eq ?_ ?_) (Ev.bindO (app_eq ?_ ?_) (Ev.bindO (subLo_eq htl) (Ev.bindO (app_eq ?_ ?_) ((Ev.some _).cast (by simp)))))) <;> simp <;> omega
theorem contains_l1 (K : Nat) {l : List Int} {x : Int} (hl : Sm l) : ∀ (m p : List Int) (k : Nat), l = p ++ m → m.length < k → ref32_Contains_l1 K l x k (p.length : Int) = some (if m.contains x then .inr true else .inl ()) := by
 intro m
 induction m with
 | nil =>
  intro p k h hk
  obtain ⟨k, rfl⟩ : ∃ j, k = j + 1 := ⟨k - 1, by omega⟩
  subst h
  simp [ref32_Contains_l1, cnd, inn]
 | cons y m ih =>
  intro p k h hk
  obtain ⟨k, rfl⟩ : ∃ j, k = j + 1 := ⟨k - 1, by omega⟩
  have hg : idx l (p.length : Int) = some y := idx_eq (by subst h; simp)
  have hlt : (p.length : Int) < (l.length : Int) := by subst h; simp; omega
  have hw : w64 ((p.length : Int) + 1) = ((p ++ [y]).length : Int) := by
   rw [w64_id (by omega) (by omega)]; simp
  simp only [ref32_Contains_l1, hlt, decide_true, cnd, hg, Option.bind_some]
  cases hy : y == x with
  | true =>
   have : y = x := by simpa using hy
   simp [out, this]
  | false =>
   have hne : ¬ y = x := by simpa using hy
   simp only [hw]
   rw [ih (p ++ [y]) k (by subst h; simp) (by simp at hk; omega)]
   have : ¬ x = y := fun e => hne e.symm
   simp [this]
theorem ev_contains {l : List Int} {x : Int} (hl : Sm l) : Ev (fun K _ => ref32_Contains K l x) (l.contains x) := by
 have h1 : Ev (fun K _ => ref32_Contains_l1 K l x K 0) (if l.contains x then .inr true else .inl ()) := ⟨l.length + 1, fun K k hK _ => by
  have := contains_l1 K (x := x) hl l [] K rfl (by omega)
  simpa using this⟩
 unfold ref32_Contains
 cases h : l.contains x with
 | true => rw [h] at h1; exact Ev.sqr h1
 | false => rw [h] at h1; exact Ev.sql h1 (Ev.some _)
theorem union_l1 {b : List Int} (hb : Sm b) : ∀ (m p a : List Int), b = p ++ m → Sm a → a.length + m.length ≤ 17592186044000 → Ev (fun K k => ref32_Union_l1 K b k (a, (p.length : Int))) (m.foldl ins a) := by
 intro m
 induction m with
 | nil =>
  intro p a h ha _
  refine Ev.step (fun K k => rfl) (Ev.f ?_ (Ev.some _))
  subst h; simp
 | cons y m ih =>
  intro p a h ha hs
  have hg : idx b (p.length : Int) = some y := idx_eq (by subst h; simp)
  have hlt : (p.length : Int) < (b.length : Int) := by subst h; simp; omega
  have hw : w64 ((p.length : Int) + 1) = ((p ++ [y]).length : Int) := by
   rw [w64_id (by omega) (by omega)]; simp
  have hln := len_ins a y
  simp only [List.length_cons] at hs
  refine Ev.step (fun K k => rfl) (Ev.t (by simpa using hlt) (Ev.bindO hg (Ev.bind (ev_insert ha) ?_)))
  show Ev (fun K k => ref32_Union_l1 K b k (ins a y, w64 ((p.length : Int) + 1))) _
  rw [hw]
  exact ih (p ++ [y]) (ins a y) (by subst h; simp) (by unfold Sm; omega) (by omega)
theorem ev_union {a b : List Int} (ha : Sm a) (hb : Sm b) (h : a.length + b.length ≤ 17592186044000) : Ev (fun K _ => ref32_Union K a b) (uni a b) := by
 unfold ref32_Union
 refine Ev.bindO (app_eq (by simp; unfold Sm at ha; omega) (by simp; unfold Sm at ha; omega)) (Ev.bind (Ev.loop ?_) (Ev.some _))
 exact union_l1 hb b [] a rfl ha h
theorem minus_l1 {a b : List Int} (ha : Sm a) (hb : Sm b) : ∀ (m p s : List Int), a = p ++ m → s.length + m.length ≤ 17592186044000 → Ev (fun K k => ref32_Minus_l1 K a b k ((p.length : Int), s)) (s ++ mns m b) := by
 intro m
 induction m with
 | nil =>
  intro p s h _
  refine Ev.step (fun K k => rfl) (Ev.f ?_ ((Ev.some _).cast (by simp [mns])))
  subst h; simp
 | cons y m ih =>
  intro p s h hs
  have hg : idx a (p.length : Int) = some y := idx_eq (by subst h; simp)
  have hlt : (p.length : Int) < (a.length : Int) := by subst h; simp; omega
  have hw : w64 ((p.length : Int) + 1) = ((p ++ [y]).length : Int) := by
   rw [w64_id (by omega) (by omega)]; simp
  simp only [List.length_cons] at hs
  refine Ev.step (fun K k => rfl) (Ev.t (by simpa using hlt) (Ev.bind (x := if b.contains y then s else s ++ [y]) (Ev.bindO hg (Ev.bind (ev_contains hb) ?_)) ?_))
  ·cases hc : b.contains y with
   | true => exact Ev.f rfl (Ev.some _)
   | false => exact Ev.t rfl (Ev.bindO hg (Ev.bindO (app_eq (by simp; omega) (by simp; omega)) (Ev.some _)))
  ·show Ev (fun K k => ref32_Minus_l1 K a b k (w64 ((p.length : Int) + 1), _)) _
   rw [hw]
   cases hc : b.contains y with
   | true =>
    refine (ih (p ++ [y]) s (by subst h; simp) (by omega)).cast ?_
    simp only [mns, List.filter_cons, hc]; simp
   | false =>
    refine (ih (p ++ [y]) (s ++ [y]) (by subst h; simp) (by simp; omega)).cast ?_
    simp only [mns, List.filter_cons, hc]; simp
theorem ev_minus {a b : List Int} (ha : Sm a) (hb : Sm b) : Ev (fun K _ => ref32_Minus K a b) (mns a b) := by
 unfold ref32_Minus
 refine Ev.bind (Ev.loop ?_) (Ev.some _)
 exact (minus_l1 ha hb a [] [] rfl (by simpa using ha)).cast (by simp)
end Go.Proofs.YtocfnpnnbmicmaaDoor.Tc
end
section
set_option linter.unusedVariables false
set_option linter.unusedSimpArgs false
set_option maxRecDepth 20000
namespace Go.Proofs.YtocfnpnnbmicmaaDoor.Tc
open Go
def info0 : OpInfo := ⟨⟨#[]⟩, 0, false, false, false, false, 0⟩
def opI (op : Int) : OpInfo := if 1 ≤ op ∧ op ≤ 37 then (tableL[(op - 1).toNat]?).getD info0 else info0
theorem table_len : tableL.length = 37 := by unfold tableL; rfl
theorem machine_info (op : Int) : machine_Info op = some (opI op, decide (1 ≤ op ∧ op ≤ 37)) := by
 unfold machine_Info opI
 by_cases h : 1 ≤ op ∧ op ≤ 37
 ·have h1 : (decide (op < 1) || decide (op > 37)) = false := by simp; omega
  have h2 : w64 (op - 1) = ((op - 1).toNat : Int) := by rw [w64_id (by omega) (by omega)]; omega
  have h3 : (op - 1).toNat < tableL.length := by rw [table_len]; omega
  rw [h1, h2, idx_get h3]
  simp only [cnd, h, and_self, if_true, Option.bind_some, List.getElem?_eq_getElem h3, Option.getD_some, decide_true]
 ·have h1 : (decide (op < 1) || decide (op > 37)) = true := by simp; omega
  rw [h1]
  simp only [cnd, h, if_false, info0, decide_false]
def alw (op : Int) : Bool := (op == 3) || (op == 6) || (op == 9) || (op == 10) || (op == 11) || (op == 12) || (op == 13) || (op == 33) || (op == 34) || (op == 35) || (op == 38) || (decide (op ≥ 15) && decide (op ≤ 32))
theorem vallowed (op : Int) : vcode_allowed op = some (alw op) := by
 unfold vcode_allowed alw
 generalize (op == 3) = b1; generalize (op == 6) = b2; generalize (op == 9) = b3; generalize (op == 10) = b4; generalize (op == 11) = b5; generalize (op == 12) = b6; generalize (op == 13) = b7
 generalize (op == 33) = b8; generalize (op == 34) = b9; generalize (op == 35) = b10; generalize (op == 38) = b11; generalize (decide (op ≥ 15) && decide (op ≤ 32)) = b12
 revert b1 b2 b3 b4 b5 b6 b7 b8 b9 b10 b11 b12
 decide +kernel
theorem rallowed (op : Int) : ref32_allowed op = some (alw op) := vallowed op
def opsL : List Int := [3, 6, 9, 10, 11, 12, 13, 15, 16, 17, 18, 19, 20, 21, 22, 23, 24, 25, 26, 27, 28, 29, 30, 31, 32, 33, 34, 35, 38]
theorem alw_mem {op : Int} (h : alw op = true) : op ∈ opsL := by
 simp only [alw, Bool.or_eq_true, beq_iff_eq, Bool.and_eq_true, decide_eq_true_eq] at h
 simp only [opsL, List.mem_cons, List.not_mem_nil, or_false]
 omega
def refI (op : Int) : OpInfo := if op == 38 then ⟨⟨#[]⟩, 5, false, true, false, false, 0⟩ else opI op
theorem ref_all : opsL.all (fun op => decide (ref32_info op = some (refI op))) = true := by kernel_rfl
theorem ref_info {op : Int} (h : alw op = true) : ref32_info op = some (refI op) := of_decide_eq_true (List.all_eq_true.1 ref_all op (alw_mem h))
theorem info_all : opsL.all (fun op => ((refI op).ReadsA == (opI op).ReadsA) && ((refI op).ReadsB == (opI op).ReadsB) && (((refI op).Form == 4) == ((op == 11) || (op == 12))) && (((refI op).WritesA || (op == 6)) == ((opI op).WritesA || (op == 6) || (op == 38)))) = true := by kernel_rfl
theorem info_eq {op : Int} (h : alw op = true) : (refI op).ReadsA = (opI op).ReadsA ∧ (refI op).ReadsB = (opI op).ReadsB ∧ ((refI op).Form == 4) = ((op == 11) || (op == 12)) ∧ ((refI op).WritesA || (op == 6)) = ((opI op).WritesA || (op == 6) || (op == 38)) := by
 have := List.all_eq_true.1 info_all op (alw_mem h)
 simp only [Bool.and_eq_true, beq_iff_eq] at this
 exact ⟨this.1.1.1, this.1.1.2, this.1.2, this.2⟩
def rdRaw (v : VInstr) : List Int := (if (opI v.Instr.Op).ReadsA then [v.Instr.A] else []) ++ (if (opI v.Instr.Op).ReadsB then [v.Instr.B] else []) ++ (if (v.Instr.Op == 11) || (v.Instr.Op == 12) then [v.Instr.C] else []) ++ (if v.Instr.Op == 6 then v.Args else [])
def rd (v : VInstr) : List Int := if alw v.Instr.Op then uni [] (rdRaw v) else []
def wr (v : VInstr) : List Int := if alw v.Instr.Op && ((opI v.Instr.Op).WritesA || (v.Instr.Op == 6) || (v.Instr.Op == 38)) then [v.Instr.A] else []
def su (b : Block) : List Int := if b.End == 1 then [b.Target] else if b.End == 2 then ins [b.Target] b.Else else []
def er (b : Block) : List Int := if (b.End == 2) || (b.End == 3) then [b.Reg] else []
theorem srt_nil : Srt [] := List.Pairwise.nil
theorem srt_rd (v : VInstr) : Srt (rd v) := by unfold rd; split; exact srt_uni srt_nil; exact srt_nil
theorem vwrites (v : VInstr) : vcode_Writes v = some (wr v) := by
 unfold vcode_Writes wr
 rw [vallowed, machine_info]
 cases h : alw v.Instr.Op with
 | false => simp [cnd]
 | true => simp only [Option.bind_some, Bool.not_true, cnd, Bool.true_and]; cases ((opI v.Instr.Op).WritesA || (v.Instr.Op == 6) || (v.Instr.Op == 38)) <;> simp
theorem rwrites (v : VInstr) : ref32_Writes v = some (wr v) := by
 unfold ref32_Writes wr
 rw [rallowed]
 cases h : alw v.Instr.Op with
 | false => simp [cnd]
 | true =>
  simp only [Option.bind_some, cnd, Bool.true_and, ref_info h, (info_eq h).2.2.2]
  cases ((opI v.Instr.Op).WritesA || (v.Instr.Op == 6) || (v.Instr.Op == 38)) <;> simp
theorem list_1' {α : Type} {l : List α} (h : l.length = 1) : ∃ a, l = [a] := by match l, h with | [a], _ => exact ⟨a, rfl⟩
theorem tw_get {l : List Int} {x : Int} {i : Nat} (h : i < tw l x) : ∃ y, l[i]? = some y ∧ y < x := by
 induction l generalizing i with
 | nil => simp [tw] at h
 | cons y l ih =>
  by_cases hy : y < x
  ·have e : tw (y :: l) x = tw l x + 1 := by simp [tw, List.takeWhile_cons, hy]
   cases i with
   | zero => exact ⟨y, rfl, hy⟩
   | succ i => rw [e] at h; obtain ⟨z, hz, hz2⟩ := ih (i := i) (by omega); exact ⟨z, by simpa using hz, hz2⟩
  ·have e : tw (y :: l) x = 0 := by simp [tw, List.takeWhile_cons, hy]
   omega
theorem tw_ge {l : List Int} {x : Int} (hs : Srt l) {i : Nat} (h : tw l x ≤ i) {y : Int} (hy : l[i]? = some y) : x ≤ y := by
 induction l generalizing i with
 | nil => simp at hy
 | cons z l ih =>
  have h1 := List.pairwise_cons.1 hs
  by_cases hz : z < x
  ·have e : tw (z :: l) x = tw l x + 1 := by simp [tw, List.takeWhile_cons, hz]
   cases i with
   | zero => omega
   | succ i => exact ih h1.2 (i := i) (by omega) (by simpa using hy)
  ·cases i with
   | zero => simp at hy; omega
   | succ i =>
    have := h1.1 y (List.mem_of_getElem? (show l[i]? = some y by simpa using hy))
    omega
theorem unique_l2 (K : Nat) {c : Int} {s : List Int} {x : Int} (hs : Srt s) (hl : Sm s) : ∀ (i k : Nat), i ≤ s.length → tw s x ≤ i → i < k → vcode_unique_l2 K (c, s) x k (i : Int) = some ((tw s x : Nat) : Int) := by
 intro i
 induction i with
 | zero =>
  intro k h1 h2 hk
  obtain ⟨k, rfl⟩ : ∃ j, k = j + 1 := ⟨k - 1, by omega⟩
  have : tw s x = 0 := by omega
  simp [vcode_unique_l2, cnd, this]
 | succ i ih =>
  intro k h1 h2 hk
  obtain ⟨k, rfl⟩ : ∃ j, k = j + 1 := ⟨k - 1, by omega⟩
  have hw : w64 (((i + 1 : Nat) : Int) - 1) = (i : Int) := by rw [w64_id (by omega) (by omega)]; omega
  have hlt : i < s.length := by omega
  have hpos : ((i + 1 : Nat) : Int) > 0 := by omega
  simp only [vcode_unique_l2, hpos, decide_true, cnd, hw, idx_get hlt, Option.bind_some]
  by_cases hy : s[i] ≥ x
  ·simp only [hy, decide_true]
   refine ih k (by omega) ?_ (by omega)
   rcases Nat.lt_or_ge i (tw s x) with q | q
   ·obtain ⟨y, hy1, hy2⟩ := tw_get q
    rw [List.getElem?_eq_getElem hlt] at hy1; cases hy1; omega
   ·exact q
  ·simp only [hy, decide_false]
   have : tw s x = i + 1 := by
    rcases Nat.lt_or_ge i (tw s x) with q | q
    ·omega
    ·exact absurd (tw_ge hs q (List.getElem?_eq_getElem hlt)) (by omega)
   rw [this]
theorem cpy_ins (s : List Int) (x : Int) (k : Nat) (h : k ≤ s.length) : (cpy (s ++ [0]) (k + 1) k).set k x = s.take k ++ [x] ++ s.drop k := by
 have h1 : (s.take k).length = k := by simp; omega
 unfold cpy
 have e1 : min ((s ++ [0]).length - k) ((s ++ [0]).length - (k + 1)) = s.length - k := by simp; omega
 rw [e1]
 have e2 : (s ++ [0]).drop (k + 1 + (s.length - k)) = [] := List.drop_eq_nil_of_le (by simp; omega)
 have e3 : ((s ++ [0]).drop k).take (s.length - k) = s.drop k := by
  rw [List.drop_append_of_le_length h, List.take_append_of_le_length (by simp), List.take_of_length_le (by simp)]
 have e4 : (s ++ [0]).take (k + 1) = s.take k ++ ((s ++ [0]).drop k).take 1 := by
  rw [List.take_add, List.take_append_of_le_length h]
 rw [e2, e3, e4, List.append_nil]
 have h5 : (((s ++ [0]).drop k).take 1).length = 1 := by simp; omega
 obtain ⟨z, hz⟩ := list_1' h5
 rw [hz]
 rw [List.append_assoc, List.set_append_right _ _ (by omega), h1]
 simp
theorem unique_l1 {a : List Int} (ha : Sm a) : ∀ (m p s : List Int), a = p ++ m → Srt s → s.length + m.length ≤ 17592186044000 → Ev (fun K k => vcode_unique_l1 K a k ((p.length : Int), s)) (m.foldl ins s) := by
 intro m
 induction m with
 | nil =>
  intro p s h _ _
  refine Ev.step (fun K k => rfl) (Ev.f ?_ (Ev.some _))
  subst h; simp
 | cons y m ih =>
  intro p s h hs hl
  have hg : idx a (p.length : Int) = some y := idx_eq (by subst h; simp)
  have hlt : (p.length : Int) < (a.length : Int) := by subst h; simp; omega
  have hw : w64 ((p.length : Int) + 1) = ((p ++ [y]).length : Int) := by
   rw [w64_id (by omega) (by omega)]; simp
  simp only [List.length_cons] at hl
  have htl := tw_le s y
  have hln := len_ins s y
  refine Ev.step (fun K k => rfl) (Ev.t (by simpa using hlt) (Ev.bind (x := ins s y) (Ev.bindO hg ?_) ?_))
  ·refine Ev.bind (x := ((tw s y : Nat) : Int)) ⟨s.length + 1, fun K k hK _ => unique_l2 K hs (by omega) s.length K (Nat.le_refl _) htl (by omega)⟩ ?_
   refine Ev.bind (x := decide (s[tw s y]? = some y)) ?_ ?_
   ·refine Ev.cnd (fun h => ?_) (fun h => ?_)
    ·have hlt : tw s y < s.length := by simpa using h
     refine Ev.bindO (idx_get hlt) ((Ev.some _).cast ?_)
     rw [Bool.eq_iff_iff]; simp [List.getElem?_eq_getElem hlt]
    ·refine (Ev.some _).cast ?_
     have : s[tw s y]? = none := List.getElem?_eq_none (by simpa using h)
     simp [this]
   ·rw [ins_tw]
    refine Ev.cnd (fun h => (Ev.some _).cast (by rw [if_pos (of_decide_eq_true h)])) (fun h => ?_)
    rw [if_neg (of_decide_eq_false h)]
    have hw2 : w64 (((tw s y : Nat) : Int) + 1) = ((tw s y + 1 : Nat) : Int) := by rw [w64_id (by omega) (by omega)]; simp
    have hlen : (s ++ [(0 : Int)]).length = s.length + 1 := by simp
    refine Ev.bindO (app_eq (by simp; omega) (by simp; omega)) ?_
    simp only [hw2]
    refine Ev.bindO (subLo_eq (by rw [hlen]; omega)) (Ev.guard (by simp) (Ev.bindO (subLo_eq (by rw [hlen]; omega)) (Ev.guard (by simp) (Ev.guard ?_ ?_))))
    ·simp only [Int.toNat_natCast, hlen, Bool.and_eq_true, decide_eq_true_eq]; omega
    ·simp only [Int.toNat_natCast]
     have hc : (cpy (s ++ [0]) (tw s y + 1) (tw s y)).length = s.length + 1 := by
      have := congrArg List.length (cpy_ins s y (tw s y) htl)
      simp at this; omega
     refine Ev.bindO (idx_get (by rw [hc]; omega)) ((Ev.some _).cast (cpy_ins s y (tw s y) htl))
  ·show Ev (fun K k => vcode_unique_l1 K a k (w64 ((p.length : Int) + 1), ins s y)) _
   rw [hw]
   exact ih (p ++ [y]) (ins s y) (by subst h; simp) (srt_ins hs) (by omega)
theorem ev_unique {a : List Int} (ha : Sm a) : Ev (fun K _ => vcode_unique K a) (uni [] a) := by
 unfold vcode_unique
 refine Ev.bind (Ev.loop ?_) (Ev.some _)
 exact unique_l1 ha a [] [] rfl srt_nil (by simpa using ha)
theorem ev_vreads {v : VInstr} (h : v.Args.length ≤ 100) : Ev (fun K _ => vcode_Reads K v) (rd v) := by
 unfold vcode_Reads rd
 refine Ev.bindO (vallowed _) ?_
 cases ha : alw v.Instr.Op with
 | false => exact Ev.t rfl (Ev.some _)
 | true =>
  refine Ev.f rfl (Ev.bindO (machine_info _) ?_)
  have e : rdRaw v = (((if (opI v.Instr.Op).ReadsA then [v.Instr.A] else []) ++ (if (opI v.Instr.Op).ReadsB then [v.Instr.B] else [])) ++ (if (v.Instr.Op == 11) || (v.Instr.Op == 12) then [v.Instr.C] else [])) ++ (if v.Instr.Op == 6 then v.Args else []) := rfl
  rw [if_pos rfl, e]
  refine Ev.bind (x := if (opI v.Instr.Op).ReadsA then [v.Instr.A] else []) (Ev.ite (fun _ => Ev.bindO (app_eq (by simp) (by simp)) (Ev.some _)) (fun _ => Ev.some _)) ?_
  generalize hs : (if (opI v.Instr.Op).ReadsA then [v.Instr.A] else []) = s
  have hl : s.length ≤ 1 := by rw [← hs]; split <;> simp
  refine Ev.bind (x := s ++ if (opI v.Instr.Op).ReadsB then [v.Instr.B] else []) ?_ ?_
  ·show Ev (fun K k => cnd (opI v.Instr.Op).ReadsB _ _) _
   refine Ev.cnd (fun hb => Ev.bindO (app_eq (by simp; omega) (by simp; omega)) ((Ev.some _).cast (by rw [if_pos hb]))) (fun hb => (Ev.some _).cast (by rw [if_neg (by rw [hb]; simp)]; simp))
  generalize hs2 : (s ++ if (opI v.Instr.Op).ReadsB then [v.Instr.B] else []) = s2
  have hl2 : s2.length ≤ 2 := by rw [← hs2]; split <;> simp <;> omega
  refine Ev.bind (x := s2 ++ if (v.Instr.Op == 11) || (v.Instr.Op == 12) then [v.Instr.C] else []) ?_ ?_
  ·generalize ((v.Instr.Op == 11) || (v.Instr.Op == 12)) = b1
   cases b1 with
   | true => exact Ev.t rfl (Ev.bindO (app_eq (by simp; omega) (by simp; omega)) ((Ev.some _).cast (by simp)))
   | false => exact Ev.f rfl ((Ev.some _).cast (by simp))
  generalize hs3 : (s2 ++ if (v.Instr.Op == 11) || (v.Instr.Op == 12) then [v.Instr.C] else []) = s3
  have hl3 : s3.length ≤ 3 := by
   rw [← hs3]
   generalize ((v.Instr.Op == 11) || (v.Instr.Op == 12)) = b1
   cases b1 <;> simp <;> omega
  generalize (v.Instr.Op == 6) = b6
  refine Ev.bind (x := s3 ++ if b6 then v.Args else []) ?_ ?_
  ·cases b6 with
   | true => exact Ev.t rfl (Ev.bindO (app_eq (by omega) (by omega)) ((Ev.some _).cast (by simp)))
   | false => exact Ev.f rfl ((Ev.some _).cast (by simp))
  refine Ev.bind (ev_unique ?_) (Ev.some _)
  have : (if b6 then v.Args else []).length ≤ 100 := by cases b6 <;> simp; exact h
  unfold Sm; rw [List.length_append]; omega
theorem reads_l1 {v : VInstr} (h : v.Args.length ≤ 100) (hop : (v.Instr.Op == 6) = true) : ∀ (m p s : List Int), v.Args = p ++ m → s.length + m.length ≤ 200 → Ev (fun K k => ref32_Reads_l1 K v k (s, (p.length : Int))) (m.foldl ins s) := by
 intro m
 induction m with
 | nil =>
  intro p s h _
  refine Ev.step (fun K k => rfl) (Ev.f ?_ (Ev.some _))
  rw [h]; simp
 | cons y m ih =>
  intro p s he hs
  have hg : idx v.Args (p.length : Int) = some y := idx_eq (by rw [he]; simp)
  have hlt : (p.length : Int) < (v.Args.length : Int) := by rw [he]; simp; omega
  have hw : w64 ((p.length : Int) + 1) = ((p ++ [y]).length : Int) := by
   rw [w64_id (by omega) (by omega)]; simp
  have hln := len_ins s y
  simp only [List.length_cons] at hs
  refine Ev.step (fun K k => rfl) (Ev.t (by simp [hlt, hop]) (Ev.bindO hg (Ev.bind (ev_insert (show Sm s by unfold Sm; omega)) ?_)))
  show Ev (fun K k => ref32_Reads_l1 K v k (ins s y, w64 ((p.length : Int) + 1))) _
  rw [hw]
  exact ih (p ++ [y]) (ins s y) (by rw [he]; simp) (by omega)
theorem ev_rreads {v : VInstr} (h : v.Args.length ≤ 100) : Ev (fun K _ => ref32_Reads K v) (rd v) := by
 unfold ref32_Reads rd
 refine Ev.bindO (rallowed _) ?_
 cases ha : alw v.Instr.Op with
 | false => exact Ev.t rfl (Ev.some _)
 | true =>
  obtain ⟨i1, i2, i3, _⟩ := info_eq ha
  refine Ev.f rfl (Ev.bindO (ref_info ha) ?_)
  rw [if_pos rfl]
  simp only [i1, i2, i3]
  have e : uni [] (rdRaw v) = uni (uni (uni (uni [] (if (opI v.Instr.Op).ReadsA then [v.Instr.A] else [])) (if (opI v.Instr.Op).ReadsB then [v.Instr.B] else [])) (if (v.Instr.Op == 11) || (v.Instr.Op == 12) then [v.Instr.C] else [])) (if v.Instr.Op == 6 then v.Args else []) := by
   simp only [uni, rdRaw, List.foldl_append]
  rw [e]
  refine Ev.bind (x := uni [] (if (opI v.Instr.Op).ReadsA then [v.Instr.A] else [])) (Ev.cnd (fun hb => Ev.bind (ev_insert (by simp [Sm])) ((Ev.some _).cast (by simp [hb, uni]))) (fun hb => (Ev.some _).cast (by simp [hb, uni]))) ?_
  generalize hs : uni [] (if (opI v.Instr.Op).ReadsA then [v.Instr.A] else []) = s
  have hl : s.length ≤ 1 := by rw [← hs]; split <;> simp [uni, ins]
  refine Ev.bind (x := uni s (if (opI v.Instr.Op).ReadsB then [v.Instr.B] else [])) (Ev.cnd (fun hb => Ev.bind (ev_insert (by unfold Sm; omega)) ((Ev.some _).cast (by simp [hb, uni]))) (fun hb => (Ev.some _).cast (by simp [hb, uni]))) ?_
  generalize hs2 : uni s (if (opI v.Instr.Op).ReadsB then [v.Instr.B] else []) = s2
  have hl2 : s2.length ≤ 2 := by rw [← hs2]; split; exact Nat.le_trans (len_uni _ _) (by simp; omega); simp [uni]; omega
  refine Ev.bind (x := uni s2 (if (v.Instr.Op == 11) || (v.Instr.Op == 12) then [v.Instr.C] else [])) (Ev.cnd (fun hb => Ev.bind (ev_insert (by unfold Sm; omega)) ((Ev.some _).cast (by rw [if_pos hb]; rfl))) (fun hb => (Ev.some _).cast (by rw [if_neg (by simp [hb])]; rfl))) ?_
  generalize hs3 : uni s2 (if (v.Instr.Op == 11) || (v.Instr.Op == 12) then [v.Instr.C] else []) = s3
  have hl3 : s3.length ≤ 3 := by rw [← hs3]; split; exact Nat.le_trans (len_uni _ _) (by simp; omega); simp [uni]; omega
  refine Ev.bind (x := uni s3 (if v.Instr.Op == 6 then v.Args else [])) ?_ (Ev.some _)
  refine Ev.loop ?_
  cases hop : v.Instr.Op == 6 with
  | true => exact reads_l1 h hop v.Args [] s3 rfl (by omega)
  | false => exact Ev.step (fun K k => rfl) (Ev.f (by simp [hop]) (Ev.some _))
theorem ev_vsucc (b : Block) : Ev (fun K _ => vcode_Successors K b) (su b) := by
 unfold vcode_Successors su
 refine Ev.ite (fun _ => Ev.some _) (fun _ => Ev.ite (fun _ => Ev.bind (ev_unique (by simp [Sm])) ((Ev.some _).cast ?_)) (fun _ => Ev.some _))
 rfl
theorem ev_rsucc (b : Block) : Ev (fun K _ => ref32_Successors K b) (su b) := by
 unfold ref32_Successors su
 exact Ev.ite (fun _ => Ev.some _) (fun _ => Ev.ite (fun _ => Ev.bind (ev_insert (by simp [Sm])) (Ev.some _)) (fun _ => Ev.some _))
theorem rendreads (b : Block) : ref32_endReads b = some (er b) := by
 unfold ref32_endReads er
 cases ((b.End == 2) || (b.End == 3)) <;> rfl
end Go.Proofs.YtocfnpnnbmicmaaDoor.Tc
end
section
set_option linter.unusedVariables false
set_option linter.unusedSimpArgs false
set_option maxRecDepth 20000
namespace Go.Proofs.YtocfnpnnbmicmaaDoor.Tc
open Go
def regB (c : VFunc) (n : Int) : Bool := (decide (n ≥ 0)) && (decide (n < c.Regs))
def blkB (c : VFunc) (n : Int) : Bool := (decide (n ≥ 0)) && (decide (n < ((c.Blocks).length : Int)))
def fm (op : Int) : Int := if op == 38 then 5 else (opI op).Form
def fA (f : Int) : Bool := (f == 2) || (f == 3) || (f == 4) || (f == 5) || (f == 7)
def fBb (f : Int) : Bool := (f == 3) || (f == 4) || (f == 7)
def fC (f : Int) : Bool := (f == 4)
def fN (f : Int) : Bool := (f == 5) || (f == 7)
def numB (c : VFunc) (i : Instr) : Bool :=
 if i.Op == 33 then (decide (i.N ≥ (-4194304))) && (decide (i.N < 4194304)) else if i.Op == 6 then (decide (i.N ≥ 0)) && (decide (i.N < 8))
 else if (i.Op == 34) || (i.Op == 35) then (decide (i.N ≥ 0)) && (decide (i.N < 4)) else if i.Op == 38 then (decide (i.N ≥ 0)) && (decide (i.N < c.Params)) else true
def insB (c : VFunc) (v : VInstr) : Bool :=
 if (((!(alw v.Instr.Op)) || (decide (((v.Args).length : Int) > 6))) || ((v.Instr.Op != 6) && (decide (((v.Args).length : Int) > 0)))) then false
 else if v.Args.all (regB c) then
  if (((((((fA (fm v.Instr.Op) && !(regB c v.Instr.A)) || (fBb (fm v.Instr.Op) && !(regB c v.Instr.B))) || (fC (fm v.Instr.Op) && !(regB c v.Instr.C))) || ((!(fA (fm v.Instr.Op))) && (v.Instr.A != 0))) || ((!(fBb (fm v.Instr.Op))) && (v.Instr.B != 0))) || ((!(fC (fm v.Instr.Op))) && (v.Instr.C != 0))) || ((!(fN (fm v.Instr.Op))) && (v.Instr.N != 0))) then false
  else numB c v.Instr
 else false
def endB (c : VFunc) (b : Block) : Bool :=
 if b.End == 1 then (blkB c b.Target && (b.Reg == 0)) && (b.Else == 0) else if b.End == 2 then (blkB c b.Target && blkB c b.Else) && regB c b.Reg
 else if b.End == 3 then (regB c b.Reg && (b.Target == 0)) && (b.Else == 0) else if b.End == 4 then (((decide (b.Target ≥ 1)) && (decide (b.Target < 33554432))) && (b.Reg == 0)) && (b.Else == 0) else false
def headB (c : VFunc) : Bool := ((((((decide (c.Params < 0)) || (decide (c.Params > 6))) || (decide (c.Regs < 0))) || (decide (c.Regs > 3000))) || (decide (((c.Blocks).length : Int) < 1))) || (decide (((c.Blocks).length : Int) > 1000)))
def validB (c : VFunc) : Bool := !(headB c) && c.Blocks.all (fun b => b.Instrs.all (insB c) && endB c b)
theorem vform (op : Int) : vcode_form op = some (fm op) := by
 unfold vcode_form fm
 rw [machine_info]
 cases op == 38 <;> rfl
theorem ev_args {c : VFunc} {v : VInstr} (h : v.Args.length ≤ 6) : ∀ (m p : List Int), v.Args = p ++ m → Ev (fun K k => vcode_validInstr_l1 K c v k (p.length : Int)) (if m.all (regB c) then .inl () else .inr false) := by
 intro m
 induction m with
 | nil =>
  intro p he
  refine Ev.step (fun K k => rfl) (Ev.f ?_ ((Ev.inn ()).cast (by simp)))
  rw [he]; simp
 | cons y m ih =>
  intro p he
  have hg : idx v.Args (p.length : Int) = some y := idx_eq (by rw [he]; simp)
  have hlt : (p.length : Int) < (v.Args.length : Int) := by rw [he]; simp; omega
  have hw : w64 ((p.length : Int) + 1) = ((p ++ [y]).length : Int) := by
   rw [w64_id (by omega) (by omega)]; simp
  refine Ev.step (fun K k => rfl) (Ev.t (by simpa using hlt) (Ev.bindO hg (Ev.bindO (x := regB c y) rfl ?_)))
  cases hy : regB c y with
  | true =>
   refine Ev.f rfl ?_
   rw [hw]
   refine (ih (p ++ [y]) (by rw [he]; simp)).cast ?_
   simp [hy]
  | false => exact Ev.t rfl ((Ev.out (Ev.some false)).cast (by simp [hy]))
theorem ev_vvalidInstr (c : VFunc) (v : VInstr) : Ev (fun K _ => vcode_validInstr K c v) (insB c v) := by
 unfold vcode_validInstr insB
 refine Ev.bindO (vallowed _) (Ev.ite (fun _ => Ev.some _) (fun h0 => ?_))
 have hlen : v.Args.length ≤ 6 := by
  simp only [Bool.or_eq_false_iff, decide_eq_false_iff_not] at h0
  have := h0.1.2; omega
 have hargs : Ev (fun K _ => vcode_validInstr_l1 K c v K 0) _ := Ev.loop (ev_args (c := c) hlen v.Args [] rfl)
 cases ha : v.Args.all (regB c) with
 | false => rw [ha] at hargs; exact Ev.sqr hargs
 | true =>
  rw [ha] at hargs
  refine Ev.sql hargs ?_
  refine Ev.bind (x := (fA (fm v.Instr.Op), fBb (fm v.Instr.Op), fC (fm v.Instr.Op), fN (fm v.Instr.Op))) (Ev.of ?_) ?_
  ·rw [vform]
   simp only [Option.bind_some, fA, fBb, fC, fN]
   generalize fm v.Instr.Op = f
   by_cases h2 : f = 2
   ·subst h2; rfl
   by_cases h3 : f = 3
   ·subst h3; rfl
   by_cases h4 : f = 4
   ·subst h4; rfl
   by_cases h5 : f = 5
   ·subst h5; rfl
   by_cases h7 : f = 7
   ·subst h7; rfl
   rw [show (f == 2) = false by simpa using h2, show (f == 3) = false by simpa using h3, show (f == 4) = false by simpa using h4, show (f == 5) = false by simpa using h5, show (f == 7) = false by simpa using h7]
   rfl
  refine Ev.bind (x := fA (fm v.Instr.Op) && !(regB c v.Instr.A)) (Ev.of ?_) (Ev.bind (x := (fA (fm v.Instr.Op) && !(regB c v.Instr.A)) || (fBb (fm v.Instr.Op) && !(regB c v.Instr.B))) (Ev.of ?_) (Ev.bind (x := ((fA (fm v.Instr.Op) && !(regB c v.Instr.A)) || (fBb (fm v.Instr.Op) && !(regB c v.Instr.B))) || (fC (fm v.Instr.Op) && !(regB c v.Instr.C))) (Ev.of ?_) ?_))
  ·show cnd (fA (fm v.Instr.Op)) (some (!(regB c v.Instr.A))) (some false) = _
   cases fA (fm v.Instr.Op) <;> rfl
  ·show cnd (fA (fm v.Instr.Op) && !(regB c v.Instr.A)) (some true) ((cnd (fBb (fm v.Instr.Op)) (some (!(regB c v.Instr.B))) (some false)).bind some) = _
   cases (fA (fm v.Instr.Op) && !(regB c v.Instr.A)) <;> cases fBb (fm v.Instr.Op) <;> rfl
  ·show cnd ((fA (fm v.Instr.Op) && !(regB c v.Instr.A)) || (fBb (fm v.Instr.Op) && !(regB c v.Instr.B))) (some true) ((cnd (fC (fm v.Instr.Op)) (some (!(regB c v.Instr.C))) (some false)).bind some) = _
   cases ((fA (fm v.Instr.Op) && !(regB c v.Instr.A)) || (fBb (fm v.Instr.Op) && !(regB c v.Instr.B))) <;> cases fC (fm v.Instr.Op) <;> rfl
  refine Ev.ite (fun _ => Ev.some _) (fun _ => ?_)
  unfold numB
  refine Ev.ite (fun _ => Ev.some _) (fun _ => Ev.ite (fun _ => Ev.some _) (fun _ => Ev.bindO (x := (v.Instr.Op == 34) || (v.Instr.Op == 35)) ?_ (Ev.ite (fun _ => Ev.some _) (fun _ => Ev.ite (fun _ => Ev.some _) (fun _ => Ev.some _)))))
  cases v.Instr.Op == 34 <;> rfl
theorem ev_vvalid_l2 {c : VFunc} {b : Block} (hb : Sm b.Instrs) : ∀ (m p : List VInstr), b.Instrs = p ++ m → Ev (fun K k => vcode_Valid_l2 K c b k (p.length : Int)) (if m.all (insB c) then .inl () else .inr (.inr false)) := by
 intro m
 induction m with
 | nil =>
  intro p he
  refine Ev.step (fun K k => rfl) (Ev.f ?_ ((Ev.inn ()).cast (by simp)))
  rw [he]; simp
 | cons y m ih =>
  intro p he
  have hg : idx b.Instrs (p.length : Int) = some y := idx_eq (by rw [he]; simp)
  have hlt : (p.length : Int) < (b.Instrs.length : Int) := by rw [he]; simp; omega
  have hw : w64 ((p.length : Int) + 1) = ((p ++ [y]).length : Int) := by
   rw [w64_id (by omega) (by omega)]; simp
  refine Ev.step (fun K k => rfl) (Ev.t (by simpa using hlt) (Ev.bindO hg (Ev.bind (ev_vvalidInstr c y) ?_)))
  cases hy : insB c y with
  | true =>
   refine Ev.f rfl ?_
   rw [hw]
   refine (ih (p ++ [y]) (by rw [he]; simp)).cast ?_
   simp [hy]
  | false => exact Ev.t rfl ((Ev.out (Ev.out (Ev.some false))).cast (by simp [hy]))
def SmF (c : VFunc) : Prop := Sm c.Blocks ∧ ∀ b, b ∈ c.Blocks → Sm b.Instrs
theorem ev_vvalid_l1 {c : VFunc} (hc : SmF c) : ∀ (m p : List Block), c.Blocks = p ++ m → Ev (fun K k => vcode_Valid_l1 K c k (p.length : Int)) (if m.all (fun b => b.Instrs.all (insB c) && endB c b) then .inl () else .inr false) := by
 have hc1 := hc.1
 intro m
 induction m with
 | nil =>
  intro p he
  refine Ev.step (fun K k => rfl) (Ev.f ?_ ((Ev.inn ()).cast (by simp)))
  rw [he]; simp
 | cons y m ih =>
  intro p he
  have hg : idx c.Blocks (p.length : Int) = some y := idx_eq (by rw [he]; simp)
  have hlt : (p.length : Int) < (c.Blocks.length : Int) := by rw [he]; simp; omega
  have hw : w64 ((p.length : Int) + 1) = ((p ++ [y]).length : Int) := by
   rw [w64_id (by omega) (by omega)]; simp
  have h2 : Ev (fun K _ => vcode_Valid_l2 K c y K 0) _ := Ev.loop (ev_vvalid_l2 (c := c) (hc.2 y (by rw [he]; simp)) y.Instrs [] rfl)
  refine Ev.step (fun K k => rfl) (Ev.t (by simpa using hlt) (Ev.bindO hg ?_))
  cases hi : y.Instrs.all (insB c) with
  | false => rw [hi] at h2; refine (Ev.sqr h2).cast ?_; simp [hi]
  | true =>
   rw [hi] at h2
   refine Ev.sql h2 (Ev.bindO (x := endB c y) ?_ ?_)
   ·have e1 : ∀ n, vcode_Valid_1 n c = some (blkB c n) := fun n => rfl
    have e2 : ∀ n, vcode_Valid_2 n c = some (regB c n) := fun n => rfl
    simp only [e1, e2, Option.bind_some, endB]
    cases y.End == 1 <;> cases y.End == 2 <;> cases y.End == 3 <;> cases y.End == 4 <;> cases blkB c y.Target <;> cases blkB c y.Else <;> rfl
   ·cases hy : endB c y with
    | true =>
     refine Ev.f rfl ?_
     rw [hw]
     refine (ih (p ++ [y]) (by rw [he]; simp)).cast ?_
     simp [hi, hy]
    | false => exact Ev.t rfl ((Ev.out (Ev.some false)).cast (by simp [hi, hy]))
theorem ev_vvalid {c : VFunc} (hc : SmF c) : Ev (fun K _ => vcode_Valid K c) (validB c) := by
 unfold vcode_Valid validB
 have h1 : Ev (fun K _ => vcode_Valid_l1 K c K 0) _ := Ev.loop (ev_vvalid_l1 hc c.Blocks [] rfl)
 show Ev (fun K _ => cnd (headB c) _ _) _
 cases hh : headB c with
 | true => exact Ev.t rfl (Ev.some _)
 | false =>
  refine Ev.f rfl ?_
  cases hb : c.Blocks.all (fun b => b.Instrs.all (insB c) && endB c b) with
  | true => rw [hb] at h1; exact Ev.sql h1 (Ev.some _)
  | false => rw [hb] at h1; exact Ev.sqr h1
theorem form_all : opsL.all (fun op => ((refI op).Form == fm op) && ((fm op != 1) == fA (fm op)) && (fN (fm op) == ((op == 13) || (op == 33) || (op == 6) || (op == 34) || (op == 35) || (op == 38)))) = true := by kernel_rfl
theorem form_eq {op : Int} (h : alw op = true) : (refI op).Form = fm op ∧ (fm op != 1) = fA (fm op) ∧ fN (fm op) = ((op == 13) || (op == 33) || (op == 6) || (op == 34) || (op == 35) || (op == 38)) := by
 have := List.all_eq_true.1 form_all op (alw_mem h)
 simp only [Bool.and_eq_true, beq_iff_eq] at this
 exact ⟨this.1.1, this.1.2, this.2⟩
theorem ev_rargs {c : VFunc} {v : VInstr} (h : v.Args.length ≤ 6) : ∀ (m p : List Int), v.Args = p ++ m → Ev (fun K k => ref32_validInstr_l1 K v c k (p.length : Int)) (if m.all (regB c) then .inl () else .inr false) := by
 intro m
 induction m with
 | nil =>
  intro p he
  refine Ev.step (fun K k => rfl) (Ev.f ?_ ((Ev.inn ()).cast (by simp)))
  rw [he]; simp
 | cons y m ih =>
  intro p he
  have hg : idx v.Args (p.length : Int) = some y := idx_eq (by rw [he]; simp)
  have hlt : (p.length : Int) < (v.Args.length : Int) := by rw [he]; simp; omega
  have hw : w64 ((p.length : Int) + 1) = ((p ++ [y]).length : Int) := by
   rw [w64_id (by omega) (by omega)]; simp
  refine Ev.step (fun K k => rfl) (Ev.t (by simpa using hlt) (Ev.bind (x := !(regB c y)) (Ev.bindO hg (Ev.cnd (fun h1 => (Ev.some _).cast ?_) (fun h1 => Ev.bindO hg ((Ev.some _).cast ?_)))) ?_))
  ·have h2 : y < 0 := by simpa using h1
   have : regB c y = false := by unfold regB; simp; omega
   rw [this]; rfl
  ·have h2 : ¬ y < 0 := by simpa using h1
   unfold regB
   rw [Bool.eq_iff_iff]; simp; omega
  ·cases hy : regB c y with
   | true =>
    refine Ev.f rfl ?_
    rw [hw]
    refine (ih (p ++ [y]) (by rw [he]; simp)).cast ?_
    simp [hy]
   | false => exact Ev.t rfl ((Ev.out (Ev.some false)).cast (by simp [hy]))
theorem roperand (b : Bool) (n : Int) (c : VFunc) : ref32_validOperand b n c.Regs = some (if b then regB c n else n == 0) := by
 unfold ref32_validOperand regB
 cases b <;> rfl
theorem ev_rvalidInstr (c : VFunc) (v : VInstr) : Ev (fun K _ => ref32_validInstr K v c) (insB c v) := by
 unfold ref32_validInstr insB
 have e0 : (((!(alw v.Instr.Op)) || (decide (((v.Args).length : Int) > 6))) || ((v.Instr.Op != 6) && (decide (((v.Args).length : Int) > 0)))) = (((!(alw v.Instr.Op)) || ((v.Instr.Op != 6) && (decide (((v.Args).length : Int) > 0)))) || (decide (((v.Args).length : Int) > 6))) := by
  cases (!(alw v.Instr.Op)) <;> cases (decide (((v.Args).length : Int) > 6)) <;> cases ((v.Instr.Op != 6) && (decide (((v.Args).length : Int) > 0))) <;> rfl
 rw [e0]
 refine Ev.bindO (rallowed _) (Ev.ite (fun _ => Ev.some _) (fun h0 => ?_))
 have hlen : v.Args.length ≤ 6 := by
  simp only [Bool.or_eq_false_iff, decide_eq_false_iff_not] at h0
  have := h0.2; omega
 have hal : alw v.Instr.Op = true := by
  simp only [Bool.or_eq_false_iff, Bool.not_eq_false'] at h0
  exact h0.1.1
 obtain ⟨f1, f2, f3⟩ := form_eq hal
 have hargs : Ev (fun K _ => ref32_validInstr_l1 K v c K 0) _ := Ev.loop (ev_rargs (c := c) hlen v.Args [] rfl)
 cases ha : v.Args.all (regB c) with
 | false => rw [ha] at hargs; exact Ev.sqr hargs
 | true =>
  rw [ha] at hargs
  refine Ev.sql hargs (Ev.bindO (ref_info hal) ?_)
  rw [if_pos rfl]
  have eB : (((fm v.Instr.Op == 3) || (fm v.Instr.Op == 4)) || (fm v.Instr.Op == 7)) = fBb (fm v.Instr.Op) := rfl
  have eC : (fm v.Instr.Op == 4) = fC (fm v.Instr.Op) := rfl
  simp only [f1, f2, eB]
  simp only [eC]
  generalize hpA : (if fA (fm v.Instr.Op) then regB c v.Instr.A else v.Instr.A == 0) = pA
  generalize hpB : (if fBb (fm v.Instr.Op) then regB c v.Instr.B else v.Instr.B == 0) = pB
  generalize hpC : (if fC (fm v.Instr.Op) then regB c v.Instr.C else v.Instr.C == 0) = pC
  have eall : ((((((fA (fm v.Instr.Op) && !(regB c v.Instr.A)) || (fBb (fm v.Instr.Op) && !(regB c v.Instr.B))) || (fC (fm v.Instr.Op) && !(regB c v.Instr.C))) || ((!(fA (fm v.Instr.Op))) && (v.Instr.A != 0))) || ((!(fBb (fm v.Instr.Op))) && (v.Instr.B != 0))) || ((!(fC (fm v.Instr.Op))) && (v.Instr.C != 0))) = (((!pA) || (!pB)) || (!pC)) := by
   subst hpA hpB hpC
   simp only [bne]
   cases fA (fm v.Instr.Op) <;> cases fBb (fm v.Instr.Op) <;> cases fC (fm v.Instr.Op) <;> cases regB c v.Instr.A <;> cases regB c v.Instr.B <;> cases regB c v.Instr.C <;> cases v.Instr.A == 0 <;> cases v.Instr.B == 0 <;> cases v.Instr.C == 0 <;> rfl
  rw [eall]
  refine Ev.bindO ((roperand _ _ c).trans (congrArg some hpA)) (Ev.bind (x := (!pA) || (!pB)) (Ev.of ?_) (Ev.bind (x := ((!pA) || (!pB)) || (!pC)) (Ev.of ?_) ?_))
  ·rw [roperand, hpB]; cases pA <;> rfl
  ·rw [roperand, hpC]; cases pA <;> cases pB <;> rfl
  cases ((!pA) || (!pB)) || (!pC) with
  | true => exact Ev.t rfl (Ev.some _)
  | false =>
   refine Ev.f rfl ?_
   rw [f3]
   unfold numB
   by_cases h13 : v.Instr.Op = 13
   ·rw [h13]; exact Ev.t rfl ((Ev.some _).cast rfl)
   by_cases h33 : v.Instr.Op = 33
   ·rw [h33]; exact Ev.f rfl (Ev.t rfl ((Ev.some _).cast rfl))
   by_cases h6 : v.Instr.Op = 6
   ·rw [h6]; exact Ev.f rfl (Ev.f rfl (Ev.t rfl ((Ev.some _).cast rfl)))
   by_cases h34 : v.Instr.Op = 34
   ·rw [h34]; exact Ev.f rfl (Ev.f rfl (Ev.f rfl (Ev.bindO rfl (Ev.t rfl ((Ev.some _).cast rfl)))))
   by_cases h35 : v.Instr.Op = 35
   ·rw [h35]; exact Ev.f rfl (Ev.f rfl (Ev.f rfl (Ev.bindO rfl (Ev.t rfl ((Ev.some _).cast rfl)))))
   by_cases h38 : v.Instr.Op = 38
   ·rw [h38]; exact Ev.f rfl (Ev.f rfl (Ev.f rfl (Ev.bindO rfl (Ev.f rfl (Ev.t rfl ((Ev.some _).cast rfl))))))
   rw [show (v.Instr.Op == 13) = false by simpa using h13, show (v.Instr.Op == 33) = false by simpa using h33, show (v.Instr.Op == 6) = false by simpa using h6, show (v.Instr.Op == 34) = false by simpa using h34, show (v.Instr.Op == 35) = false by simpa using h35, show (v.Instr.Op == 38) = false by simpa using h38]
   refine Ev.f rfl (Ev.f rfl (Ev.f rfl (Ev.bindO rfl (Ev.f rfl (Ev.f rfl ((Ev.some _).cast ?_))))))
   by_cases hN : v.Instr.N = 0
   ·simp [hN]
   ·have : (v.Instr.N == 0) = false := by simpa using hN
    simp [this, hN]
theorem ev_rvalid_l2 {c : VFunc} {b : Block} (hb : Sm b.Instrs) : ∀ (m p : List VInstr), b.Instrs = p ++ m → Ev (fun K k => ref32_Valid_l2 K c b k (p.length : Int)) (if m.all (insB c) then .inl () else .inr (.inr false)) := by
 intro m
 induction m with
 | nil =>
  intro p he
  refine Ev.step (fun K k => rfl) (Ev.f ?_ ((Ev.inn ()).cast (by simp)))
  rw [he]; simp
 | cons y m ih =>
  intro p he
  have hg : idx b.Instrs (p.length : Int) = some y := idx_eq (by rw [he]; simp)
  have hlt : (p.length : Int) < (b.Instrs.length : Int) := by rw [he]; simp; omega
  have hw : w64 ((p.length : Int) + 1) = ((p ++ [y]).length : Int) := by
   rw [w64_id (by omega) (by omega)]; simp
  refine Ev.step (fun K k => rfl) (Ev.t (by simpa using hlt) (Ev.bindO hg (Ev.bind (ev_rvalidInstr c y) ?_)))
  cases hy : insB c y with
  | true =>
   refine Ev.f rfl ?_
   rw [hw]
   refine (ih (p ++ [y]) (by rw [he]; simp)).cast ?_
   simp [hy]
  | false => exact Ev.t rfl ((Ev.out (Ev.out (Ev.some false))).cast (by simp [hy]))
theorem rvalidEnd (c : VFunc) (b : Block) : ref32_validEnd b c = some (endB c b) := by
 unfold ref32_validEnd endB blkB regB
 have e : (cnd (decide (b.Target ≥ 0)) (cnd (decide (b.Else ≥ 0)) (cnd (decide (b.Reg ≥ 0)) (some ((decide (b.Target < ((c.Blocks).length : Int))), (decide (b.Else < ((c.Blocks).length : Int))), (decide (b.Reg < c.Regs)))) (some ((decide (b.Target < ((c.Blocks).length : Int))), (decide (b.Else < ((c.Blocks).length : Int))), false))) (cnd (decide (b.Reg ≥ 0)) (some ((decide (b.Target < ((c.Blocks).length : Int))), false, (decide (b.Reg < c.Regs)))) (some ((decide (b.Target < ((c.Blocks).length : Int))), false, false)))) (cnd (decide (b.Else ≥ 0)) (cnd (decide (b.Reg ≥ 0)) (some (false, (decide (b.Else < ((c.Blocks).length : Int))), (decide (b.Reg < c.Regs)))) (some (false, (decide (b.Else < ((c.Blocks).length : Int))), false))) (cnd (decide (b.Reg ≥ 0)) (some (false, false, (decide (b.Reg < c.Regs)))) (some (false, false, false))))) = some (decide (b.Target ≥ 0) && decide (b.Target < ((c.Blocks).length : Int)), decide (b.Else ≥ 0) && decide (b.Else < ((c.Blocks).length : Int)), decide (b.Reg ≥ 0) && decide (b.Reg < c.Regs)) := by
  cases decide (b.Target ≥ 0) <;> cases decide (b.Else ≥ 0) <;> cases decide (b.Reg ≥ 0) <;> rfl
 rw [e]
 simp only [Option.bind_some]
 generalize (decide (b.Target ≥ 0) && decide (b.Target < ((c.Blocks).length : Int))) = t
 generalize (decide (b.Else ≥ 0) && decide (b.Else < ((c.Blocks).length : Int))) = f
 generalize (decide (b.Reg ≥ 0) && decide (b.Reg < c.Regs)) = r
 cases b.End == 1 <;> cases b.End == 2 <;> cases b.End == 3 <;> cases b.End == 4 <;> simp only [cnd, Bool.false_eq_true, if_true, if_false, Option.some.injEq] <;> cases t <;> cases b.Else == 0 <;> cases b.Reg == 0 <;> cases r <;> cases f <;> simp
theorem ev_rvalid_l1 {c : VFunc} (hc : SmF c) : ∀ (m p : List Block), c.Blocks = p ++ m → Ev (fun K k => ref32_Valid_l1 K c k (p.length : Int)) (if m.all (fun b => b.Instrs.all (insB c) && endB c b) then .inl () else .inr false) := by
 have hc1 := hc.1
 intro m
 induction m with
 | nil =>
  intro p he
  refine Ev.step (fun K k => rfl) (Ev.f ?_ ((Ev.inn ()).cast (by simp)))
  rw [he]; simp
 | cons y m ih =>
  intro p he
  have hg : idx c.Blocks (p.length : Int) = some y := idx_eq (by rw [he]; simp)
  have hlt : (p.length : Int) < (c.Blocks.length : Int) := by rw [he]; simp; omega
  have hw : w64 ((p.length : Int) + 1) = ((p ++ [y]).length : Int) := by
   rw [w64_id (by omega) (by omega)]; simp
  have h2 : Ev (fun K _ => ref32_Valid_l2 K c y K 0) _ := Ev.loop (ev_rvalid_l2 (c := c) (hc.2 y (by rw [he]; simp)) y.Instrs [] rfl)
  refine Ev.step (fun K k => rfl) (Ev.t (by simpa using hlt) (Ev.bindO hg (Ev.bindO (rvalidEnd c y) ?_)))
  cases hy : endB c y with
  | false => exact Ev.t rfl ((Ev.out (Ev.some false)).cast (by simp [hy]))
  | true =>
   refine Ev.f rfl ?_
   cases hi : y.Instrs.all (insB c) with
   | false => rw [hi] at h2; refine (Ev.sqr h2).cast ?_; simp [hi]
   | true =>
    rw [hi] at h2
    refine Ev.sql h2 ?_
    rw [hw]
    refine (ih (p ++ [y]) (by rw [he]; simp)).cast ?_
    simp [hi, hy]
theorem ev_rvalid {c : VFunc} (hc : SmF c) : Ev (fun K _ => ref32_Valid K c) (validB c) := by
 unfold ref32_Valid validB
 have h1 : Ev (fun K _ => ref32_Valid_l1 K c K 0) _ := Ev.loop (ev_rvalid_l1 hc c.Blocks [] rfl)
 show Ev (fun K _ => cnd (headB c) _ _) _
 cases hh : headB c with
 | true => exact Ev.t rfl (Ev.some _)
 | false =>
  refine Ev.f rfl ?_
  cases hb : c.Blocks.all (fun b => b.Instrs.all (insB c) && endB c b) with
  | true => rw [hb] at h1; exact Ev.sql h1 (Ev.some _)
  | false => rw [hb] at h1; exact Ev.sqr h1
end Go.Proofs.YtocfnpnnbmicmaaDoor.Tc
end
section
set_option linter.unusedVariables false
set_option linter.unusedSimpArgs false
namespace Go.Proofs.YtocfnpnnbmicmaaDoor.Tc
open Go
abbrev U64 (w : Int) : Prop := 0 ≤ w ∧ w < 18446744073709551616
def tb (w : Int) (i : Nat) : Bool := w.toNat.testBit i
theorem u64_id {n : Int} (h : U64 n) : IntKind.u64.wrap n = n := by
 unfold IntKind.wrap
 have e : (2 ^ IntKind.u64.bits : Int) = 18446744073709551616 := by decide
 simp only [e, IntKind.signed, Bool.false_and]
 exact Int.emod_eq_of_lt h.1 h.2
theorem u64_nat {n : Nat} (h : n < 18446744073709551616) : IntKind.u64.wrap (n : Int) = n := u64_id ⟨by omega, by omega⟩
theorem ofInt_nat {w : Int} (h : U64 w) : (BitVec.ofInt 64 w).toNat = w.toNat := by
 rw [BitVec.toNat_ofInt]
 have : w % (2 ^ 64 : Nat) = w := Int.emod_eq_of_lt h.1 (by have := h.2; norm_cast)
 rw [this]
theorem u64_lt {w : Int} (h : U64 w) : w.toNat < 2 ^ 64 := by have := h.1; have := h.2; omega
theorem tb_ge {w : Int} (h : U64 w) {i : Nat} (hi : 64 ≤ i) : tb w i = false := Nat.testBit_lt_two_pow (Nat.lt_of_lt_of_le (u64_lt h) (Nat.pow_le_pow_right (by omega) hi))
theorem tb_zero (i : Nat) : tb 0 i = false := by simp [tb]
theorem bOr_eq {x y : Int} (hx : U64 x) (hy : U64 y) : bOr .u64 x y = ((x.toNat ||| y.toNat : Nat) : Int) := by
 unfold bOr
 show IntKind.u64.wrap ((BitVec.ofInt 64 x ||| BitVec.ofInt 64 y).toNat : Int) = _
 rw [BitVec.toNat_or, ofInt_nat hx, ofInt_nat hy]
 exact u64_nat (Nat.or_lt_two_pow (u64_lt hx) (u64_lt hy))
theorem u64_or {x y : Int} (hx : U64 x) (hy : U64 y) : U64 (bOr .u64 x y) := by
 rw [bOr_eq hx hy]
 have := Nat.or_lt_two_pow (u64_lt hx) (u64_lt hy)
 exact ⟨by omega, by omega⟩
theorem tb_or {x y : Int} (hx : U64 x) (hy : U64 y) (i : Nat) : tb (bOr .u64 x y) i = (tb x i || tb y i) := by
 rw [bOr_eq hx hy]; simp [tb, Nat.testBit_or]
theorem bAndNot_eq {x y : Int} : bAndNot .u64 x y = (((BitVec.ofInt 64 x &&& ~~~ BitVec.ofInt 64 y).toNat : Nat) : Int) := by
 unfold bAndNot
 exact u64_nat (BitVec.isLt _)
theorem u64_andNot {x y : Int} : U64 (bAndNot .u64 x y) := by
 rw [bAndNot_eq]
 have := (BitVec.ofInt 64 x &&& ~~~ BitVec.ofInt 64 y).isLt
 exact ⟨by omega, by omega⟩
theorem getLsb {x : Int} (hx : U64 x) (i : Nat) : (BitVec.ofInt 64 x).getLsbD i = tb x i := by
 rw [BitVec.getLsbD, ofInt_nat hx]; rfl
theorem tb_andNot {x y : Int} (hx : U64 x) (hy : U64 y) (i : Nat) : tb (bAndNot .u64 x y) i = (tb x i && !tb y i) := by
 rw [bAndNot_eq]
 show (BitVec.ofInt 64 x &&& ~~~ BitVec.ofInt 64 y).getLsbD i = _
 rw [BitVec.getLsbD_and, BitVec.getLsbD_not, getLsb hx, getLsb hy]
 by_cases h : i < 64
 ·simp [h]
 ·simp [h, tb_ge hx (by omega : 64 ≤ i)]
theorem tb_ext {x y : Int} (hx : 0 ≤ x) (hy : 0 ≤ y) (h : ∀ i, tb x i = tb y i) : x = y := by
 have : x.toNat = y.toNat := Nat.eq_of_testBit_eq h
 omega
theorem bShl_one {j : Nat} (h : j < 64) : bShl .u64 1 (j : Int) = ((2 ^ j : Nat) : Int) := by
 unfold bShl
 have e : min (j : Int).toNat IntKind.u64.bits = j := by
  have : IntKind.u64.bits = 64 := rfl
  rw [this]; omega
 rw [e]
 have : (1 * 2 ^ j : Int) = ((2 ^ j : Nat) : Int) := by push_cast; omega
 rw [this]
 exact u64_nat (Nat.pow_lt_pow_right (by omega) h)
theorem u64_pow {j : Nat} (h : j < 64) : U64 ((2 ^ j : Nat) : Int) := by
 have h1 : 2 ^ j < 2 ^ 64 := Nat.pow_lt_pow_right (by omega) h
 generalize 2 ^ j = n at h1
 exact ⟨by omega, by omega⟩
theorem tb_pow (i j : Nat) : tb ((2 ^ j : Nat) : Int) i = decide (j = i) := by
 unfold tb
 rw [Int.toNat_natCast, Nat.testBit_two_pow]
theorem bShr_eq {w : Int} (h : U64 w) {b : Nat} (hb : b ≤ 64) : bShr .u64 w (b : Int) = ((w.toNat >>> b : Nat) : Int) := by
 unfold bShr
 have e : min (b : Int).toNat IntKind.u64.bits = b := by
  have : IntKind.u64.bits = 64 := rfl
  rw [this]; omega
 rw [e, Nat.shiftRight_eq_div_pow]
 obtain ⟨n, rfl⟩ : ∃ n : Nat, w = n := ⟨w.toNat, by have := h.1; omega⟩
 have e2 : (2 ^ b : Int) = ((2 ^ b : Nat) : Int) := by push_cast; rfl
 generalize 2 ^ b = m at e2 ⊢
 rw [e2, Int.fdiv_eq_ediv_of_nonneg _ (by omega)]
 simp
theorem bAnd_one {x : Int} (h : U64 x) : (bAnd .u64 x 1 == 1) = tb x 0 := by
 unfold bAnd
 have e : (BitVec.ofInt IntKind.u64.bits x &&& BitVec.ofInt IntKind.u64.bits 1).toNat = x.toNat &&& 1 := by
  show (BitVec.ofInt 64 x &&& BitVec.ofInt 64 1).toNat = _
  rw [BitVec.toNat_and, ofInt_nat h]; rfl
 rw [e, u64_nat (by have : x.toNat &&& 1 ≤ 1 := Nat.and_le_right; omega), Nat.and_one_is_mod]
 unfold tb
 rw [Nat.testBit_zero]
 have : x.toNat % 2 < 2 := Nat.mod_lt _ (by omega)
 rw [Bool.eq_iff_iff]; simp; omega
def W (n : Nat) (ws : List Int) : Prop := ws.length = n ∧ ∀ w, w ∈ ws → U64 w
def wb (ws : List Int) (i : Nat) : Bool := tb (ws.getD (i / 64) 0) (i % 64)
theorem W.get {n : Nat} {ws : List Int} (h : W n ws) {i : Nat} (hi : i < ws.length) : U64 ws[i] := h.2 _ (List.getElem_mem hi)
theorem W.getD {n : Nat} {ws : List Int} (h : W n ws) (i : Nat) : U64 (ws.getD i 0) := by
 rw [List.getD_eq_getElem?_getD]
 rcases Nat.lt_or_ge i ws.length with q | q
 ·rw [List.getElem?_eq_getElem q]; exact h.get q
 ·rw [List.getElem?_eq_none q]; exact ⟨by decide, by decide⟩
theorem W.set {n : Nat} {ws : List Int} (h : W n ws) {i : Nat} {w : Int} (hw : U64 w) : W n (ws.set i w) := ⟨by rw [List.length_set]; exact h.1, fun x hx => by
 rcases List.mem_or_eq_of_mem_set hx with q | q
 ·exact h.2 x q
 ·exact q ▸ hw⟩
theorem div64 {a : Int} (h0 : 0 ≤ a) (h : a < 1000000) : w64 (Int.tdiv a 64) = ((a.toNat / 64 : Nat) : Int) := by
 rw [Int.tdiv_eq_ediv_of_nonneg h0, w64_id (by omega) (by omega)]; omega
theorem mod64 {a : Int} (h0 : 0 ≤ a) : u64 (Int.tmod a 64) = ((a.toNat % 64 : Nat) : Int) := by
 rw [Int.tmod_eq_emod_of_nonneg h0]
 have : a % 64 = ((a.toNat % 64 : Nat) : Int) := by omega
 rw [this]; exact u64_nat (by omega)
structure Rep (n : Nat) (ws l : List Int) : Prop where
 w : W n ws
 s : Srt l
 m : ∀ x, x ∈ l ↔ 0 ≤ x ∧ wb ws x.toNat = true
theorem Rep.lt {n : Nat} {ws l : List Int} (h : Rep n ws l) {x : Int} (hx : x ∈ l) : 0 ≤ x ∧ x < 64 * n := by
 have h1 := (h.m x).1 hx
 refine ⟨h1.1, ?_⟩
 rcases Nat.lt_or_ge (x.toNat / 64) ws.length with q | q
 ·rw [h.w.1] at q; omega
 ·exfalso
  have := h1.2
  unfold wb at this
  rw [List.getD_eq_getElem?_getD, List.getElem?_eq_none q] at this
  simp [tb_zero] at this
theorem Rep.len {n : Nat} {ws l : List Int} (h : Rep n ws l) : l.length ≤ 64 * n := srt_len h.s fun x hx => by have := h.lt hx; omega
theorem Rep.ext {n : Nat} {ws l m : List Int} (h : Rep n ws l) (k : Rep n ws m) : l = m := srt_ext h.s k.s fun x => (h.m x).trans (k.m x).symm
def nw (R : Int) : Nat := (R.toNat + 63) / 64
theorem empty_ok {R : Int} (h0 : 0 ≤ R) (h : R ≤ 3000) : ∃ ws, liveness_empty R = some ws ∧ Rep (nw R) ws [] := by
 refine ⟨List.replicate (nw R) 0, ?_, ⟨⟨by simp, fun w hw => ?_⟩, List.Pairwise.nil, fun x => ?_⟩⟩
 ·unfold liveness_empty
  have e : w64 (R + 63) = R + 63 := w64_id (by omega) (by omega)
  have e2 : (R + 63).toNat / 64 = nw R := by unfold nw; omega
  rw [e, div64 (by omega) (by omega), e2, mk_eq (by unfold nw; omega) (by unfold nw; omega)]
  rfl
 ·rw [List.eq_of_mem_replicate hw]; exact ⟨by decide, by decide⟩
 ·simp only [List.not_mem_nil, false_iff, not_and]
  intro _
  unfold wb
  have : (List.replicate (nw R) (0 : Int)).getD (x.toNat / 64) 0 = 0 := by
   rw [List.getD_eq_getElem?_getD, List.getElem?_replicate]; split <;> rfl
  rw [this, tb_zero]; simp
theorem wb_set {ws : List Int} {i : Nat} {w : Int} (h : i < ws.length) (j : Nat) : wb (ws.set i w) j = if j / 64 = i then tb w (j % 64) else wb ws j := by
 unfold wb
 by_cases e : j / 64 = i
 ·rw [if_pos e, List.getD_eq_getElem?_getD, e, List.getElem?_set_self h]; rfl
 ·rw [if_neg e, List.getD_eq_getElem?_getD, List.getElem?_set_ne (Ne.symm e), ← List.getD_eq_getElem?_getD]
theorem wb_at {ws : List Int} {i : Nat} (h : i / 64 < ws.length) : tb ws[i / 64] (i % 64) = wb ws i := by
 unfold wb; rw [List.getD_eq_getElem?_getD, List.getElem?_eq_getElem h]; rfl
theorem wb_at' {ws : List Int} {i j : Nat} (h : i / 64 < ws.length) (e : j / 64 = i / 64) : tb ws[i / 64] (j % 64) = wb ws j := by
 unfold wb; rw [List.getD_eq_getElem?_getD, e, List.getElem?_eq_getElem h]; rfl
theorem add_ok {R : Int} (hR : R ≤ 3000) {ws l : List Int} (h : Rep (nw R) ws l) {a : Int} (h0 : 0 ≤ a) (ha : a < R) : ∃ ws', liveness_set_add ws a = some ws' ∧ Rep (nw R) ws' (ins l a) := by
 have hlt : a.toNat / 64 < ws.length := by rw [h.w.1]; unfold nw; omega
 have hu := h.w.get hlt
 have hm : a.toNat % 64 < 64 := Nat.mod_lt _ (by omega)
 refine ⟨ws.set (a.toNat / 64) (bOr .u64 ws[a.toNat / 64] (bShl .u64 1 ((a.toNat % 64 : Nat) : Int))), ?_, ?_⟩
 ·unfold liveness_set_add
  rw [div64 h0 (by omega), mod64 h0, idx_get hlt]; rfl
 ·rw [bShl_one hm]
  refine ⟨h.w.set (u64_or hu (u64_pow hm)), srt_ins h.s, fun x => ?_⟩
  rw [mem_ins, h.m, wb_set hlt]
  by_cases e : x.toNat / 64 = a.toNat / 64
  ·rw [if_pos e, tb_or hu (u64_pow hm), tb_pow, wb_at' hlt e]
   simp only [Bool.or_eq_true, decide_eq_true_eq]
   constructor
   ·rintro (rfl | ⟨h1, h2⟩)
    ·exact ⟨h0, .inr rfl⟩
    ·exact ⟨h1, .inl h2⟩
   ·rintro ⟨h1, h2 | h2⟩
    ·exact .inr ⟨h1, h2⟩
    ·left; omega
  ·rw [if_neg e]
   constructor
   ·rintro (rfl | h1)
    ·exact absurd rfl e
    ·exact h1
   ·exact .inr
theorem remove_ok {R : Int} (hR : R ≤ 3000) {ws l : List Int} (h : Rep (nw R) ws l) {a : Int} (h0 : 0 ≤ a) (ha : a < R) : ∃ ws', liveness_set_remove ws a = some ws' ∧ Rep (nw R) ws' (mns l [a]) := by
 have hlt : a.toNat / 64 < ws.length := by rw [h.w.1]; unfold nw; omega
 have hu := h.w.get hlt
 have hm : a.toNat % 64 < 64 := Nat.mod_lt _ (by omega)
 refine ⟨ws.set (a.toNat / 64) (bAndNot .u64 ws[a.toNat / 64] (bShl .u64 1 ((a.toNat % 64 : Nat) : Int))), ?_, ?_⟩
 ·unfold liveness_set_remove
  rw [div64 h0 (by omega), mod64 h0, idx_get hlt]; rfl
 ·rw [bShl_one hm]
  refine ⟨h.w.set u64_andNot, srt_mns h.s, fun x => ?_⟩
  rw [mem_mns, h.m, wb_set hlt, List.mem_singleton]
  by_cases e : x.toNat / 64 = a.toNat / 64
  ·rw [if_pos e, tb_andNot hu (u64_pow hm), tb_pow, wb_at' hlt e]
   simp only [Bool.and_eq_true, Bool.not_eq_true', decide_eq_false_iff_not]
   constructor
   ·rintro ⟨⟨h1, h2⟩, h3⟩
    exact ⟨h1, h2, fun e2 => h3 (by omega)⟩
   ·rintro ⟨h1, h2, h3⟩
    exact ⟨⟨h1, h2⟩, fun e2 => h3 (by rw [e2])⟩
  ·rw [if_neg e]
   constructor
   ·exact fun h => h.1
   ·exact fun h => ⟨h, fun e2 => e (by rw [e2])⟩
def orw (x y : Int) : Int := if bAndNot .u64 y x != 0 then bOr .u64 x y else x
theorem andNot_zero {x y : Int} (hx : U64 x) (hy : U64 y) : (bAndNot .u64 y x != 0) = false ↔ ∀ i, tb y i = true → tb x i = true := by
 constructor
 ·intro h i hi
  have h0 : bAndNot .u64 y x = 0 := by simpa using h
  have := tb_andNot hy hx i
  rw [h0, tb_zero, hi] at this
  simpa using this.symm
 ·intro h
  have : bAndNot .u64 y x = 0 := tb_ext u64_andNot.1 (by omega) fun i => by
   rw [tb_andNot hy hx, tb_zero]
   cases hi : tb y i with
   | false => rfl
   | true => rw [h i hi]; rfl
  simp [this]
theorem tb_orw {x y : Int} (hx : U64 x) (hy : U64 y) (i : Nat) : tb (orw x y) i = (tb x i || tb y i) := by
 unfold orw
 cases h : (bAndNot .u64 y x != 0) with
 | true => exact tb_or hx hy i
 | false =>
  have := (andNot_zero hx hy).1 h i
  cases hi : tb y i with
  | false => simp
  | true => rw [this hi]; simp [this hi]
theorem u64_orw {x y : Int} (hx : U64 x) (hy : U64 y) : U64 (orw x y) := by
 unfold orw; split
 ·exact u64_or hx hy
 ·exact hx
theorem union_l1' {a0 t : List Int} (hn : a0.length ≤ 100) : ∀ (q q2 p p2 : List Int) (m : Bool), a0.length = p.length + q.length → t = p2 ++ q2 → p2.length = p.length → q2.length = q.length →
  Ev (fun K k => liveness_set_union_l1 K a0 t k (m, (p.length : Int), p ++ q)) (m || (List.zipWith (fun x y => bAndNot .u64 y x != 0) q q2).any id, p ++ List.zipWith orw q q2) := by
 intro q
 induction q with
 | nil =>
  intro q2 p p2 m h1 h2 h3 h4
  refine Ev.step (fun K k => rfl) (Ev.f ?_ ((Ev.some _).cast (by simp)))
  simp [h1]
 | cons x q ih =>
  intro q2 p p2 m h1 h2 h3 h4
  match q2, h4 with
  | y :: q2, h4 =>
  simp only [List.length_cons] at h1 h4
  have hg : idx t (p.length : Int) = some y := idx_eq (by rw [h2, ← h3]; simp)
  have hs : idx (p ++ x :: q) (p.length : Int) = some x := idx_eq (by simp)
  have hw : w64 ((p.length : Int) + 1) = ((p ++ [orw x y]).length : Int) := by
   rw [w64_id (by omega) (by omega)]; simp
  refine Ev.step (fun K k => rfl) (Ev.t (by simp [h1]; omega) (Ev.bind (x := (m || (bAndNot .u64 y x != 0), (p ++ [orw x y]) ++ q)) (Ev.bindO hg (Ev.bindO hs ?_)) ?_))
  ·cases hb : (bAndNot .u64 y x != 0) with
   | true => exact Ev.t rfl (Ev.bindO hs (Ev.bindO hg (Ev.bindO hs ((Ev.some _).cast (by simp [orw, hb])))))
   | false => exact Ev.f rfl ((Ev.some _).cast (by simp [orw, hb]))
  ·show Ev (fun K k => liveness_set_union_l1 K a0 t k (_, w64 ((p.length : Int) + 1), _)) _
   rw [hw]
   refine (ih q2 (p ++ [orw x y]) (p2 ++ [y]) _ (by simp; omega) (by simp [h2]) (by simp [h3]) (by omega)).cast ?_
   simp [Bool.or_assoc]
theorem wb_zip {n : Nat} {s t : List Int} (hs : W n s) (ht : W n t) (i : Nat) : wb (List.zipWith orw s t) i = (wb s i || wb t i) := by
 unfold wb
 rcases Nat.lt_or_ge (i / 64) n with q | q
 ·have h1 : i / 64 < s.length := by rw [hs.1]; exact q
  have h2 : i / 64 < t.length := by rw [ht.1]; exact q
  rw [List.getD_eq_getElem?_getD, List.getD_eq_getElem?_getD, List.getD_eq_getElem?_getD, List.getElem?_zipWith, List.getElem?_eq_getElem h1, List.getElem?_eq_getElem h2]
  exact tb_orw (hs.get h1) (ht.get h2) _
 ·rw [List.getD_eq_getElem?_getD, List.getD_eq_getElem?_getD, List.getD_eq_getElem?_getD, List.getElem?_eq_none (show (List.zipWith orw s t).length ≤ i / 64 by simp [hs.1, ht.1]; exact q), List.getElem?_eq_none (show s.length ≤ i / 64 by rw [hs.1]; exact q), List.getElem?_eq_none (show t.length ≤ i / 64 by rw [ht.1]; exact q)]
  simp [tb_zero]
theorem W.zip {n : Nat} {s t : List Int} (hs : W n s) (ht : W n t) : W n (List.zipWith orw s t) := ⟨by simp [hs.1, ht.1], fun w hw => by
 obtain ⟨i, h1, h2⟩ := List.mem_iff_getElem.1 hw
 simp only [List.length_zipWith, Nat.lt_min] at h1
 rw [List.getElem_zipWith] at h2
 exact h2 ▸ u64_orw (hs.get h1.1) (ht.get h1.2)⟩
theorem ev_sunion {n : Nat} (hn : n ≤ 100) {s t l m : List Int} (hs : Rep n s l) (ht : Rep n t m) : ∃ ws, Ev (fun K _ => liveness_set_union K s t) (decide (∃ x, x ∈ m ∧ x ∉ l), ws) ∧ Rep n ws (uni l m) := by
 refine ⟨List.zipWith orw s t, ?_, hs.w.zip ht.w, srt_uni hs.s, fun x => ?_⟩
 ·unfold liveness_set_union
  have h1 : Ev (fun K _ => liveness_set_union_l1 K s t K (false, 0, s)) _ := Ev.loop (union_l1' (by rw [hs.w.1]; exact hn) s t [] [] false (by simp) rfl rfl (by rw [hs.w.1, ht.w.1]))
  refine Ev.bind h1 ((Ev.some _).cast ?_)
  refine Prod.ext ?_ (by simp)
  show (false || (List.zipWith (fun x y => bAndNot .u64 y x != 0) s t).any id) = _
  rw [Bool.false_or, Bool.eq_iff_iff, decide_eq_true_eq, List.any_eq_true]
  constructor
  ·rintro ⟨b, hb, hb2⟩
   obtain ⟨i, h1, h2⟩ := List.mem_iff_getElem.1 hb
   simp only [List.length_zipWith, Nat.lt_min] at h1
   rw [List.getElem_zipWith] at h2
   subst h2
   have hne : ¬ ∀ j, tb t[i] j = true → tb s[i] j = true := fun h => by
    have := (andNot_zero (hs.w.get h1.1) (ht.w.get h1.2)).2 h
    rw [show id (bAndNot .u64 t[i] s[i] != 0) = (bAndNot .u64 t[i] s[i] != 0) from rfl, this] at hb2
    exact absurd hb2 (by simp)
   obtain ⟨j, hj⟩ := Classical.not_forall.1 hne
   obtain ⟨hj1, hj2⟩ := Classical.not_imp.1 hj
   have hj64 : j < 64 := by
    rcases Nat.lt_or_ge j 64 with q | q
    ·exact q
    ·rw [tb_ge (ht.w.get h1.2) q] at hj1; cases hj1
   have e1 : (64 * i + j) / 64 = i := by omega
   have e2 : (64 * i + j) % 64 = j := by omega
   refine ⟨((64 * i + j : Nat) : Int), (ht.m _).2 ⟨by omega, ?_⟩, fun h => hj2 ?_⟩
   ·simp only [Int.toNat_natCast, wb, e1, e2, List.getD_eq_getElem?_getD, List.getElem?_eq_getElem h1.2, Option.getD_some]; exact hj1
   ·have := ((hs.m _).1 h).2
    simp only [Int.toNat_natCast, wb, e1, e2, List.getD_eq_getElem?_getD, List.getElem?_eq_getElem h1.1, Option.getD_some] at this; exact this
  ·rintro ⟨x, hx1, hx2⟩
   obtain ⟨h0, hlt⟩ := ht.lt hx1
   have hb := ((ht.m x).1 hx1).2
   have q1 : x.toNat / 64 < s.length := by rw [hs.w.1]; omega
   have q2 : x.toNat / 64 < t.length := by rw [ht.w.1]; omega
   refine ⟨bAndNot .u64 t[x.toNat / 64] s[x.toNat / 64] != 0, List.mem_iff_getElem.2 ⟨x.toNat / 64, by simp only [List.length_zipWith, Nat.lt_min]; exact ⟨q1, q2⟩, by rw [List.getElem_zipWith]⟩, ?_⟩
   show (bAndNot .u64 t[x.toNat / 64] s[x.toNat / 64] != 0) = true
   cases hc : (bAndNot .u64 t[x.toNat / 64] s[x.toNat / 64] != 0) with
   | true => rfl
   | false =>
    exfalso
    have := (andNot_zero (hs.w.get q1) (ht.w.get q2)).1 hc (x.toNat % 64) (by rw [wb_at q2]; exact hb)
    rw [wb_at q1] at this
    exact hx2 ((hs.m x).2 ⟨h0, this⟩)
 ·rw [mem_uni, hs.m, ht.m, wb_zip hs.w ht.w, Bool.or_eq_true]
  constructor
  ·rintro (h | h)
   ·exact ⟨h.1, .inl h.2⟩
   ·exact ⟨h.1, .inr h.2⟩
  ·rintro ⟨h, h2 | h2⟩
   ·exact .inl ⟨h, h2⟩
   ·exact .inr ⟨h, h2⟩
def wl (k : Nat) (w : Int) (b d : Nat) : List Int := ((List.range' b d).filter (tb w)).map (fun b => ((64 * k + b : Nat) : Int))
def lstF : Nat → List Int → List Int
 | _, [] => []
 | k, w :: ws => wl k w 0 64 ++ lstF (k + 1) ws
theorem wl_len (k : Nat) (w : Int) (b d : Nat) : (wl k w b d).length ≤ d := by
 unfold wl
 rw [List.length_map]
 exact Nat.le_trans (List.length_filter_le _ _) (by simp)
theorem shr_zero {w : Int} (h : U64 w) {b : Nat} (hb : b ≤ 64) : (bShr .u64 w (b : Int) != 0) = false ↔ ∀ i, b ≤ i → tb w i = false := by
 rw [bShr_eq h hb]
 constructor
 ·intro h1 i hi
  have h2 : w.toNat >>> b = 0 := by
   have : ((w.toNat >>> b : Nat) : Int) = 0 := by
    generalize w.toNat >>> b = n at h1 ⊢
    simpa using h1
   omega
  have := congrArg (fun n => n.testBit (i - b)) h2
  simp only [Nat.testBit_shiftRight, Nat.zero_testBit] at this
  unfold tb
  rw [show b + (i - b) = i by omega] at this; exact this
 ·intro h1
  have : w.toNat >>> b = 0 := Nat.eq_of_testBit_eq fun i => by
   rw [Nat.testBit_shiftRight, Nat.zero_testBit]; exact h1 _ (by omega)
  simp [this]
theorem list_l2 {ws : List Int} {n : Nat} (hws : W n ws) (hn : n ≤ 100) {i : Nat} {w : Int} (hi : ws[i]? = some w) (o : List Int) : ∀ (d b : Nat) (s : List Int), b + d = 64 → s.length + d ≤ 10000 →
  Ev (fun K k => liveness_set_list_l2 K ws ((i : Int), o) k ((b : Int), s)) (s ++ wl i w b d) := by
 have hlt : i < ws.length := by
  rcases Nat.lt_or_ge i ws.length with q | q
  ·exact q
  ·rw [List.getElem?_eq_none q] at hi; cases hi
 have hu : U64 w := hws.2 w (List.mem_of_getElem? hi)
 have hg : idx ws (i : Int) = some w := idx_eq hi
 intro d
 induction d with
 | zero =>
  intro b s hb hs
  refine Ev.step (fun K k => rfl) (Ev.bindO hg (Ev.f ?_ ((Ev.some _).cast (by simp [wl]))))
  rw [show u64 (b : Int) = b from u64_nat (by omega)]
  exact (shr_zero hu (by omega)).2 fun i hi => tb_ge hu (by omega)
 | succ d ih =>
  intro b s hb hs
  refine Ev.step (fun K k => rfl) (Ev.bindO hg ?_)
  have eu : u64 (b : Int) = b := u64_nat (by omega)
  have hw : w64 ((b : Int) + 1) = ((b + 1 : Nat) : Int) := by rw [w64_id (by omega) (by omega)]; simp
  simp only [eu]
  refine Ev.cnd (fun h1 => ?_) (fun h1 => ?_)
  ·have hbit : (bAnd .u64 (bShr .u64 w (b : Int)) 1 == 1) = tb w b := by
    have e := bShr_eq hu (b := b) (by omega)
    rw [bAnd_one (by
     rw [e]
     have : w.toNat >>> b ≤ w.toNat := by rw [Nat.shiftRight_eq_div_pow]; exact Nat.div_le_self _ _
     have := u64_lt hu
     generalize w.toNat >>> b = n at *
     exact ⟨by omega, by omega⟩), e]
    unfold tb
    rw [Int.toNat_natCast, Nat.testBit_shiftRight]; rfl
   refine Ev.bind (x := if tb w b then s ++ [((64 * i + b : Nat) : Int)] else s) (Ev.bindO hg ?_) ?_
   ·show Ev (fun K k => cnd (bAnd .u64 (bShr .u64 w (b : Int)) 1 == 1) _ _) _
    rw [hbit]
    refine Ev.cnd (fun h2 => ?_) (fun h2 => ?_)
    ·have e3 : w64 (w64 (64 * (i : Int)) + (b : Int)) = ((64 * i + b : Nat) : Int) := by
      rw [hws.1] at hlt
      rw [w64_id (n := 64 * (i : Int)) (by omega) (by omega), w64_id (by omega) (by omega)]; simp
     simp only [e3, h2, if_true]
     exact Ev.bindO (app_eq (by simp; omega) (by simp; omega)) (Ev.some _)
    ·simp only [h2]; exact Ev.some _
   ·show Ev (fun K k => liveness_set_list_l2 K ws ((i : Int), o) k (w64 ((b : Int) + 1), _)) _
    rw [hw]
    have e4 : wl i w b (d + 1) = (if tb w b then [((64 * i + b : Nat) : Int)] else []) ++ wl i w (b + 1) d := by
     unfold wl
     rw [List.range'_succ, List.filter_cons]
     split <;> simp
    rw [e4]
    cases tb w b with
    | true => refine (ih (b + 1) (s ++ [((64 * i + b : Nat) : Int)]) (by omega) (by simp; omega)).cast ?_; simp
    | false => refine (ih (b + 1) s (by omega) (by omega)).cast ?_; simp
  ·refine (Ev.some _).cast ?_
   have h2 := (shr_zero hu (by omega)).1 h1
   have : wl i w b (d + 1) = [] := by
    unfold wl
    rw [List.filter_eq_nil_iff.2 fun j hj => by
     have := List.mem_range'_1.1 hj
     rw [h2 j this.1]; simp]
    rfl
   rw [this, List.append_nil]
theorem list_l1 {ws : List Int} {n : Nat} (hws : W n ws) (hn : n ≤ 100) : ∀ (q p : List Int) (s : List Int), ws = p ++ q → s.length + 64 * q.length ≤ 10000 →
  Ev (fun K k => liveness_set_list_l1 K ws k ((p.length : Int), s)) (s ++ lstF p.length q) := by
 have hl := hws.1
 intro q
 induction q with
 | nil =>
  intro p s h hs
  refine Ev.step (fun K k => rfl) (Ev.f ?_ ((Ev.some _).cast (by simp [lstF])))
  subst h; simp
 | cons y q ih =>
  intro p s h hs
  have hlt : (p.length : Int) < (ws.length : Int) := by subst h; simp; omega
  simp only [List.length_cons] at hs
  have hw : w64 ((p.length : Int) + 1) = ((p ++ [y]).length : Int) := by
   rw [w64_id (by omega) (by omega)]; simp
  have hwl := wl_len p.length y 0 64
  refine Ev.step (fun K k => rfl) (Ev.t (by simpa using hlt) (Ev.bind (x := s ++ wl p.length y 0 64) (Ev.loop (list_l2 hws hn (i := p.length) (w := y) (by subst h; simp) s 64 0 s rfl (by omega))) ?_))
  show Ev (fun K k => liveness_set_list_l1 K ws k (w64 ((p.length : Int) + 1), _)) _
  rw [hw]
  refine (ih (p ++ [y]) (s ++ wl p.length y 0 64) (by subst h; simp) (by simp; omega)).cast ?_
  simp [lstF]
theorem mem_wl {k : Nat} {w : Int} {x : Int} (hw : U64 w) : x ∈ wl k w 0 64 ↔ 0 ≤ x ∧ x.toNat / 64 = k ∧ tb w (x.toNat % 64) = true := by
 unfold wl
 simp only [List.mem_map, List.mem_filter, List.mem_range'_1]
 constructor
 ·rintro ⟨b, ⟨h1, h2⟩, rfl⟩
  refine ⟨by omega, by omega, ?_⟩
  rw [Int.toNat_natCast, show (64 * k + b) % 64 = b by omega]; exact h2
 ·rintro ⟨h1, h2, h3⟩
  exact ⟨x.toNat % 64, ⟨by omega, h3⟩, by omega⟩
theorem srt_wl {k : Nat} {w : Int} : Srt (wl k w 0 64) := by
 unfold wl Srt
 rw [List.pairwise_map]
 refine List.Pairwise.imp (fun h => by omega) (List.Pairwise.filter _ List.pairwise_lt_range')
theorem mem_lstF {ws : List Int} (hw : ∀ w, w ∈ ws → U64 w) (k : Nat) (x : Int) : x ∈ lstF k ws ↔ 0 ≤ x ∧ k ≤ x.toNat / 64 ∧ tb (ws.getD (x.toNat / 64 - k) 0) (x.toNat % 64) = true := by
 induction ws generalizing k with
 | nil => simp [lstF, tb_zero]
 | cons w ws ih =>
  simp only [lstF, List.mem_append, mem_wl (hw w (by simp)), ih (fun v hv => hw v (by simp [hv]))]
  constructor
  ·rintro (⟨h1, h2, h3⟩ | ⟨h1, h2, h3⟩)
   ·refine ⟨h1, by omega, ?_⟩
    rw [show x.toNat / 64 - k = 0 by omega]; exact h3
   ·refine ⟨h1, by omega, ?_⟩
    rw [show x.toNat / 64 - k = (x.toNat / 64 - (k + 1)) + 1 by omega]; exact h3
  ·rintro ⟨h1, h2, h3⟩
   rcases Nat.eq_or_lt_of_le h2 with q | q
   ·left; refine ⟨h1, q.symm, ?_⟩
    rw [show x.toNat / 64 - k = 0 by omega] at h3; exact h3
   ·right; refine ⟨h1, q, ?_⟩
    rw [show x.toNat / 64 - k = (x.toNat / 64 - (k + 1)) + 1 by omega] at h3; exact h3
theorem srt_lstF {ws : List Int} (hw : ∀ w, w ∈ ws → U64 w) (k : Nat) : Srt (lstF k ws) := by
 induction ws generalizing k with
 | nil => exact List.Pairwise.nil
 | cons w ws ih =>
  refine List.pairwise_append.2 ⟨srt_wl, ih (fun v hv => hw v (by simp [hv])) _, fun a ha b hb => ?_⟩
  have h1 := (mem_wl (hw w (by simp))).1 ha
  have h2 := (mem_lstF (fun v hv => hw v (by simp [hv])) _ _).1 hb
  omega
theorem ev_list {n : Nat} (hn : n ≤ 100) {ws l : List Int} (h : Rep n ws l) : Ev (fun K _ => liveness_set_list K ws) l := by
 have e : lstF 0 ws = l := srt_ext (srt_lstF h.w.2 0) h.s fun x => by
  rw [mem_lstF h.w.2, h.m]; simp [wb]
 unfold liveness_set_list
 refine Ev.bind (Ev.loop (list_l1 h.w hn ws [] [] rfl (by rw [h.w.1]; simp; omega))) ((Ev.some _).cast ?_)
 simpa using e
def tr (v : VInstr) (l : List Int) : List Int := uni (mns l (wr v)) (rd v)
theorem remove_l {R : Int} (hR : R ≤ 3000) {r : List Int} (hr : ∀ x, x ∈ r → 0 ≤ x ∧ x < R) (hl : Sm r) : ∀ (q p : List Int) (ws l : List Int), r = p ++ q → Rep (nw R) ws l →
  ∃ ws', Ev (fun K k => liveness_transfer_l1 K r k ((p.length : Int), ws)) ws' ∧ Rep (nw R) ws' (mns l q) := by
 intro q
 induction q with
 | nil =>
  intro p ws l h h2
  refine ⟨ws, Ev.step (fun K k => rfl) (Ev.f ?_ (Ev.some _)), ?_⟩
  ·subst h; simp
  ·have : mns l [] = l := by simp [mns]
   rw [this]; exact h2
 | cons y q ih =>
  intro p ws l h h2
  have hlt : (p.length : Int) < (r.length : Int) := by subst h; simp; omega
  have hg : idx r (p.length : Int) = some y := idx_eq (by subst h; simp)
  have hw : w64 ((p.length : Int) + 1) = ((p ++ [y]).length : Int) := by
   rw [w64_id (by omega) (by omega)]; simp
  have hy := hr y (by subst h; simp)
  obtain ⟨w1, e1, r1⟩ := remove_ok hR h2 hy.1 hy.2
  obtain ⟨w2, e2, r2⟩ := ih (p ++ [y]) w1 _ (by subst h; simp) r1
  refine ⟨w2, Ev.step (fun K k => rfl) (Ev.t (by simpa using hlt) (Ev.bindO hg (Ev.bindO e1 ?_))), ?_⟩
  ·rw [hw]; exact e2
  ·have : mns l (y :: q) = mns (mns l [y]) q := by
    unfold mns
    rw [List.filter_filter]
    congr 1; funext x
    cases hx : (x == y) <;> simp [List.contains_cons, hx, Bool.and_comm]
   rw [this]; exact r2
theorem add_l {R : Int} (hR : R ≤ 3000) {r : List Int} (hr : ∀ x, x ∈ r → 0 ≤ x ∧ x < R) (hl : Sm r) : ∀ (q p : List Int) (ws l : List Int), r = p ++ q → Rep (nw R) ws l →
  ∃ ws', Ev (fun K k => liveness_transfer_l2 K r k ((p.length : Int), ws)) ws' ∧ Rep (nw R) ws' (uni l q) := by
 intro q
 induction q with
 | nil =>
  intro p ws l h h2
  refine ⟨ws, Ev.step (fun K k => rfl) (Ev.f ?_ (Ev.some _)), h2⟩
  subst h; simp
 | cons y q ih =>
  intro p ws l h h2
  have hlt : (p.length : Int) < (r.length : Int) := by subst h; simp; omega
  have hg : idx r (p.length : Int) = some y := idx_eq (by subst h; simp)
  have hw : w64 ((p.length : Int) + 1) = ((p ++ [y]).length : Int) := by
   rw [w64_id (by omega) (by omega)]; simp
  have hy := hr y (by subst h; simp)
  obtain ⟨w1, e1, r1⟩ := add_ok hR h2 hy.1 hy.2
  obtain ⟨w2, e2, r2⟩ := ih (p ++ [y]) w1 _ (by subst h; simp) r1
  refine ⟨w2, Ev.step (fun K k => rfl) (Ev.t (by simpa using hlt) (Ev.bindO hg (Ev.bindO e1 ?_))), r2⟩
  rw [hw]; exact e2
end Go.Proofs.YtocfnpnnbmicmaaDoor.Tc
end
section
set_option linter.unusedVariables false
set_option linter.unusedSimpArgs false
namespace Go.Proofs.YtocfnpnnbmicmaaDoor.Tc
open Go
theorem regB_iff {c : VFunc} {n : Int} : regB c n = true ↔ 0 ≤ n ∧ n < c.Regs := by unfold regB; simp
theorem blkB_iff {c : VFunc} {n : Int} : blkB c n = true ↔ 0 ≤ n ∧ n < (c.Blocks.length : Int) := by unfold blkB; simp
theorem use_all : opsL.all (fun op => ((!(opI op).ReadsA) || fA (fm op)) && ((!(opI op).ReadsB) || fBb (fm op)) && ((!((op == 11) || (op == 12))) || fC (fm op)) && ((!((opI op).WritesA || (op == 6) || (op == 38))) || fA (fm op))) = true := by kernel_rfl
theorem use_eq {op : Int} (h : alw op = true) : ((opI op).ReadsA = true → fA (fm op) = true) ∧ ((opI op).ReadsB = true → fBb (fm op) = true) ∧ (((op == 11) || (op == 12)) = true → fC (fm op) = true) ∧ (((opI op).WritesA || (op == 6) || (op == 38)) = true → fA (fm op) = true) := by
 have h1 := List.all_eq_true.1 use_all op (alw_mem h)
 rw [Bool.and_eq_true, Bool.and_eq_true, Bool.and_eq_true] at h1
 have gen : ∀ a b : Bool, ((!a) || b) = true → a = true → b = true := by decide
 exact ⟨gen _ _ h1.1.1.1, gen _ _ h1.1.1.2, gen _ _ h1.1.2, gen _ _ h1.2⟩
structure InsV (c : VFunc) (v : VInstr) : Prop where
 a : alw v.Instr.Op = true
 n : v.Args.length ≤ 6
 r : ∀ x, x ∈ rd v → 0 ≤ x ∧ x < c.Regs
 w : ∀ x, x ∈ wr v → 0 ≤ x ∧ x < c.Regs
 g : ∀ x, x ∈ v.Args → 0 ≤ x ∧ x < c.Regs
 o : v.Instr.Op ≠ 6 → v.Args = []
theorem ite_false {b c : Bool} (h : (if b then false else c) = true) : b = false ∧ c = true := by
 cases b
 ·exact ⟨rfl, by simpa using h⟩
 ·simp at h
theorem ite_false' {b c : Bool} (h : (if b then c else false) = true) : b = true ∧ c = true := by
 cases b
 ·simp at h
 ·exact ⟨rfl, by simpa using h⟩
theorem insV {c : VFunc} {v : VInstr} (h : insB c v = true) : InsV c v := by
 unfold insB at h
 obtain ⟨h1, h2⟩ := ite_false h
 obtain ⟨h3, h4⟩ := ite_false' h2
 obtain ⟨h5, _⟩ := ite_false h4
 simp only [Bool.or_eq_false_iff] at h1 h5
 have ha : alw v.Instr.Op = true := by simpa using h1.1.1
 have hn : v.Args.length ≤ 6 := by have := h1.1.2; simp at this; omega
 have hg : ∀ x, x ∈ v.Args → 0 ≤ x ∧ x < c.Regs := fun x hx => regB_iff.1 (List.all_eq_true.1 h3 x hx)
 have gen : ∀ a b : Bool, (a && !b) = false → a = true → b = true := by decide
 have hA := gen _ _ h5.1.1.1.1.1.1
 have hB := gen _ _ h5.1.1.1.1.1.2
 have hC := gen _ _ h5.1.1.1.1.2
 obtain ⟨u1, u2, u3, u4⟩ := use_eq ha
 refine ⟨ha, hn, fun x hx => ?_, fun x hx => ?_, hg, fun h6 => ?_⟩
 ·unfold rd at hx
  rw [if_pos ha] at hx
  rcases mem_uni.1 hx with e | e
  ·simp at e
  ·unfold rdRaw at e
   simp only [List.mem_append] at e
   rcases e with ((e | e) | e) | e
   ·cases hc : (opI v.Instr.Op).ReadsA with
    | true => rw [hc] at e; rw [List.mem_singleton.1 e]; exact regB_iff.1 (hA (u1 hc))
    | false => rw [hc] at e; simp at e
   ·cases hc : (opI v.Instr.Op).ReadsB with
    | true => rw [hc] at e; rw [List.mem_singleton.1 e]; exact regB_iff.1 (hB (u2 hc))
    | false => rw [hc] at e; simp at e
   ·cases hc : ((v.Instr.Op == 11) || (v.Instr.Op == 12)) with
    | true => rw [hc] at e; rw [List.mem_singleton.1 e]; exact regB_iff.1 (hC (u3 hc))
    | false => rw [hc] at e; simp at e
   ·cases hc : (v.Instr.Op == 6) with
    | true => rw [hc] at e; exact hg x (by simpa using e)
    | false => rw [hc] at e; simp at e
 ·unfold wr at hx
  rw [ha, Bool.true_and] at hx
  cases hc : ((opI v.Instr.Op).WritesA || (v.Instr.Op == 6) || (v.Instr.Op == 38)) with
  | true => rw [hc] at hx; rw [List.mem_singleton.1 hx]; exact regB_iff.1 (hA (u4 hc))
  | false => rw [hc] at hx; simp at hx
 ·have h7 := h1.2
  have : (v.Instr.Op != 6) = true := by simpa using h6
  rw [this, Bool.true_and] at h7
  have h8 : v.Args.length = 0 := by have := of_decide_eq_false h7; omega
  exact List.eq_nil_of_length_eq_zero h8
structure Vd (c : VFunc) : Prop where
 v : validB c = true
 s : ∀ b, b ∈ c.Blocks → b.Instrs.length ≤ 2199023255552
def blk0 : Block := ⟨[], 0, 0, 0, 0⟩
def bk (c : VFunc) (k : Nat) : Block := c.Blocks.getD k blk0
theorem bk_get {c : VFunc} {k : Nat} (h : k < c.Blocks.length) : c.Blocks[k]? = some (bk c k) := by
 unfold bk; rw [List.getD_eq_getElem?_getD, List.getElem?_eq_getElem h]; rfl
theorem bk_mem {c : VFunc} {k : Nat} (h : k < c.Blocks.length) : bk c k ∈ c.Blocks := List.mem_of_getElem? (bk_get h)
theorem bk_idx {c : VFunc} {k : Nat} (h : k < c.Blocks.length) : idx c.Blocks (k : Int) = some (bk c k) := idx_eq (bk_get h)
structure HeadV (c : VFunc) : Prop where
 p0 : 0 ≤ c.Params
 p1 : c.Params ≤ 6
 r0 : 0 ≤ c.Regs
 r1 : c.Regs ≤ 3000
 b0 : 1 ≤ c.Blocks.length
 b1 : c.Blocks.length ≤ 1000
theorem validB_iff {c : VFunc} : validB c = true ↔ headB c = false ∧ ∀ b, b ∈ c.Blocks → (∀ v, v ∈ b.Instrs → insB c v = true) ∧ endB c b = true := by
 unfold validB
 simp only [Bool.and_eq_true, Bool.not_eq_true', List.all_eq_true]
theorem headV_iff {c : VFunc} : headB c = false ↔ HeadV c := by
 unfold headB
 simp only [Bool.or_eq_false_iff, decide_eq_false_iff_not]
 constructor
 ·rintro ⟨⟨⟨⟨⟨a, b⟩, d⟩, e⟩, f⟩, g⟩
  exact ⟨by omega, by omega, by omega, by omega, by omega, by omega⟩
 ·rintro ⟨a, b, d, e, f, g⟩
  omega
theorem Vd.h {c : VFunc} (h : Vd c) : HeadV c := headV_iff.1 (validB_iff.1 h.v).1
theorem Vd.sm {c : VFunc} (h : Vd c) : SmF c := ⟨by have := h.h.b1; unfold Sm; omega, fun b hb => by have := h.s b hb; unfold Sm; omega⟩
theorem Vd.i {c : VFunc} (h : Vd c) {k : Nat} (hk : k < c.Blocks.length) {v : VInstr} (hv : v ∈ (bk c k).Instrs) : InsV c v := insV (((validB_iff.1 h.v).2 _ (bk_mem hk)).1 v hv)
theorem Vd.len {c : VFunc} (h : Vd c) {k : Nat} (hk : k < c.Blocks.length) : (bk c k).Instrs.length ≤ 2199023255552 := h.s _ (bk_mem hk)
structure EndV (c : VFunc) (b : Block) : Prop where
 s : ∀ t, t ∈ su b → 0 ≤ t ∧ t < (c.Blocks.length : Int)
 e : ∀ x, x ∈ er b → 0 ≤ x ∧ x < c.Regs
 o : b.End = 1 ∨ b.End = 2 ∨ b.End = 3 ∨ b.End = 4
theorem endV {c : VFunc} {b : Block} (h : endB c b = true) : EndV c b := by
 unfold endB at h
 by_cases h1 : b.End = 1
 ·simp only [h1, beq_self_eq_true, if_true, Bool.and_eq_true] at h
  refine ⟨fun t ht => ?_, fun x hx => ?_, .inl h1⟩
  ·simp [su, h1] at ht; subst ht; exact blkB_iff.1 h.1.1
  ·simp [er, h1] at hx
 by_cases h2 : b.End = 2
 ·simp [h2] at h
  refine ⟨fun t ht => ?_, fun x hx => ?_, .inr (.inl h2)⟩
  ·have ht : t ∈ ins [b.Target] b.Else := by simpa [su, h2] using ht
   rw [mem_ins, List.mem_singleton] at ht
   rcases ht with rfl | rfl
   ·exact blkB_iff.1 h.1.2
   ·exact blkB_iff.1 h.1.1
  ·simp [er, h2] at hx; subst hx; exact regB_iff.1 h.2
 by_cases h3 : b.End = 3
 ·simp [h3] at h
  refine ⟨fun t ht => ?_, fun x hx => ?_, .inr (.inr (.inl h3))⟩
  ·simp [su, h3] at ht
  ·simp [er, h3] at hx; subst hx; exact regB_iff.1 h.1.1
 by_cases h4 : b.End = 4
 ·refine ⟨fun t ht => ?_, fun x hx => ?_, .inr (.inr (.inr h4))⟩
  ·simp [su, h4] at ht
  ·simp [er, h4] at hx
 ·rw [if_neg (by simpa using h1), if_neg (by simpa using h2), if_neg (by simpa using h3), if_neg (by simpa using h4)] at h; cases h
theorem Vd.e {c : VFunc} (h : Vd c) {k : Nat} (hk : k < c.Blocks.length) : EndV c (bk c k) := endV ((validB_iff.1 h.v).2 _ (bk_mem hk)).2
theorem su_len (b : Block) : (su b).length ≤ 2 := by
 unfold su
 split
 ·simp
 ·split
  ·have := len_ins [b.Target] b.Else; simpa using this
  ·simp
theorem Vd.suc {c : VFunc} (h : Vd c) {k : Nat} (hk : k < c.Blocks.length) {t : Int} (ht : t ∈ su (bk c k)) : t.toNat < c.Blocks.length := by have := (h.e hk).s t ht; omega
def blkIn (b : Block) (o : List Int) : List Int := b.Instrs.foldr tr (uni o (er b))
def U (b : Block) (f : Nat → List Int) : List Int := (su b).foldl (fun a t => uni a (f t.toNat)) []
theorem mem_tr {v : VInstr} {l : List Int} {x : Int} : x ∈ tr v l ↔ (x ∈ l ∧ x ∉ wr v) ∨ x ∈ rd v := by
 unfold tr; rw [mem_uni, mem_mns]
theorem srt_tr {v : VInstr} {l : List Int} (h : Srt l) : Srt (tr v l) := srt_uni (srt_mns h)
theorem srt_foldr {vs : List VInstr} {l : List Int} (h : Srt l) : Srt (vs.foldr tr l) := by
 induction vs with
 | nil => exact h
 | cons v vs ih => exact srt_tr ih
theorem srt_blkIn {b : Block} {o : List Int} (h : Srt o) : Srt (blkIn b o) := srt_foldr (srt_uni h)
theorem mem_ufold {f : Nat → List Int} {x : Int} : ∀ (q a : List Int), x ∈ q.foldl (fun a t => uni a (f t.toNat)) a ↔ x ∈ a ∨ ∃ t, t ∈ q ∧ x ∈ f t.toNat := by
 intro q
 induction q with
 | nil => simp
 | cons t q ih =>
  intro a
  simp only [List.foldl_cons, ih, mem_uni, List.mem_cons]
  constructor
  ·rintro ((h | h) | ⟨t2, h1, h2⟩)
   ·exact .inl h
   ·exact .inr ⟨t, .inl rfl, h⟩
   ·exact .inr ⟨t2, .inr h1, h2⟩
  ·rintro (h | ⟨t2, rfl | h1, h2⟩)
   ·exact .inl (.inl h)
   ·exact .inl (.inr h2)
   ·exact .inr ⟨t2, h1, h2⟩
theorem srt_ufold {f : Nat → List Int} : ∀ (q a : List Int), Srt a → Srt (q.foldl (fun a t => uni a (f t.toNat)) a) := by
 intro q
 induction q with
 | nil => exact fun _ h => h
 | cons t q ih => exact fun a h => ih _ (srt_uni h)
theorem mem_U {b : Block} {f : Nat → List Int} {x : Int} : x ∈ U b f ↔ ∃ t, t ∈ su b ∧ x ∈ f t.toNat := by
 unfold U; rw [mem_ufold]; simp
theorem srt_U (b : Block) (f : Nat → List Int) : Srt (U b f) := srt_ufold _ _ List.Pairwise.nil
theorem mem_foldr {e o : List Int} {x : Int} (vs : List VInstr) : x ∈ vs.foldr tr (uni o e) ↔ x ∈ vs.foldr tr (uni [] e) ∨ (x ∈ o ∧ ∀ v, v ∈ vs → x ∉ wr v) := by
 induction vs with
 | nil => simp [mem_uni, or_comm]
 | cons v vs ih =>
  simp only [List.foldr_cons, mem_tr, ih, List.mem_cons, forall_eq_or_imp]
  constructor
  ·rintro (⟨h1 | h1, h2⟩ | h)
   ·exact .inl (.inl ⟨h1, h2⟩)
   ·exact .inr ⟨h1.1, h2, h1.2⟩
   ·exact .inl (.inr h)
  ·rintro ((⟨h1, h2⟩ | h) | ⟨h1, h2, h3⟩)
   ·exact .inl ⟨.inl h1, h2⟩
   ·exact .inr h
   ·exact .inl ⟨.inr ⟨h1, h3⟩, h2⟩
theorem mem_blkIn {b : Block} {o : List Int} {x : Int} : x ∈ blkIn b o ↔ x ∈ blkIn b [] ∨ (x ∈ o ∧ ∀ v, v ∈ b.Instrs → x ∉ wr v) := mem_foldr _
theorem mem_gen {vs : List VInstr} {l : List Int} {x : Int} (h : x ∈ vs.foldr tr l) : x ∈ l ∨ ∃ v, v ∈ vs ∧ x ∈ rd v := by
 induction vs with
 | nil => exact .inl h
 | cons v vs ih =>
  rcases mem_tr.1 h with ⟨h1, _⟩ | h1
  ·rcases ih h1 with h2 | ⟨w, h2, h3⟩
   ·exact .inl h2
   ·exact .inr ⟨w, by simp [h2], h3⟩
  ·exact .inr ⟨v, by simp, h1⟩
inductive Live (c : VFunc) : Nat → Int → Prop
 | gen {k : Nat} {x : Int} : k < c.Blocks.length → x ∈ blkIn (bk c k) [] → Live c k x
 | thru {k : Nat} {x t : Int} : k < c.Blocks.length → (∀ v, v ∈ (bk c k).Instrs → x ∉ wr v) → t ∈ su (bk c k) → Live c t.toNat x → Live c k x
theorem Live.reg {c : VFunc} (h : Vd c) {k : Nat} {x : Int} (hl : Live c k x) : 0 ≤ x ∧ x < c.Regs := by
 induction hl with
 | gen hk hx =>
  rcases mem_gen hx with h1 | ⟨v, h1, h2⟩
  ·rcases mem_uni.1 h1 with h2 | h2
   ·simp at h2
   ·exact (h.e hk).e _ h2
  ·exact (h.i hk h1).r _ h2
 | thru _ _ _ _ ih => exact ih
open Classical in
noncomputable def LI (c : VFunc) (k : Nat) : List Int := ((List.range c.Regs.toNat).map (fun n : Nat => (n : Int))).filter (fun x => decide (Live c k x))
noncomputable def LO (c : VFunc) (k : Nat) : List Int := U (bk c k) (LI c)
theorem srt_LI (c : VFunc) (k : Nat) : Srt (LI c k) := by
 unfold LI Srt
 refine List.Pairwise.filter _ ?_
 rw [List.pairwise_map]
 exact List.Pairwise.imp (fun h => by omega) List.pairwise_lt_range
theorem srt_LO (c : VFunc) (k : Nat) : Srt (LO c k) := srt_U _ _
theorem mem_LI {c : VFunc} (h : Vd c) {k : Nat} {x : Int} : x ∈ LI c k ↔ Live c k x := by
 unfold LI
 simp only [List.mem_filter, List.mem_map, List.mem_range, decide_eq_true_eq]
 constructor
 ·exact fun h => h.2
 ·intro hl
  have := hl.reg h
  exact ⟨⟨x.toNat, by omega, by omega⟩, hl⟩
theorem live_iff {c : VFunc} {k : Nat} (hk : k < c.Blocks.length) {x : Int} : Live c k x ↔ x ∈ blkIn (bk c k) [] ∨ ((∃ t, t ∈ su (bk c k) ∧ Live c t.toNat x) ∧ ∀ v, v ∈ (bk c k).Instrs → x ∉ wr v) := by
 constructor
 ·intro h
  cases h with
  | gen _ h => exact .inl h
  | thru _ h1 h2 h3 => exact .inr ⟨⟨_, h2, h3⟩, h1⟩
 ·rintro (h | ⟨⟨t, h1, h2⟩, h3⟩)
  ·exact .gen hk h
  ·exact .thru hk h3 h1 h2
theorem LI_eq {c : VFunc} (h : Vd c) {k : Nat} (hk : k < c.Blocks.length) : LI c k = blkIn (bk c k) (LO c k) := by
 refine srt_ext (srt_LI c k) (srt_blkIn (srt_LO c k)) fun x => ?_
 rw [mem_LI h, mem_blkIn, live_iff hk]
 unfold LO
 rw [mem_U]
 simp only [mem_LI h]
theorem LI_of {c : VFunc} (h : Vd c) {I : Nat → List Int} (h1 : ∀ k, k < c.Blocks.length → Srt (I k) ∧ ∀ x, x ∈ I k → Live c k x) (h2 : ∀ k, k < c.Blocks.length → I k = blkIn (bk c k) (U (bk c k) I)) (k : Nat) (hk : k < c.Blocks.length) : I k = LI c k := by
 refine srt_ext (h1 k hk).1 (srt_LI c k) fun x => ?_
 rw [mem_LI h]
 refine ⟨(h1 k hk).2 x, fun hl => ?_⟩
 clear h1
 induction hl with
 | gen h3 h4 => rw [h2 _ h3, mem_blkIn]; exact .inl h4
 | thru h3 h4 h5 h6 ih =>
  rw [h2 _ h3, mem_blkIn, mem_U]
  exact .inr ⟨⟨_, h5, ih (h.suc h3 h5)⟩, h4⟩
theorem U_congr {b : Block} {f g : Nat → List Int} (h : ∀ t, t ∈ su b → f t.toNat = g t.toNat) : U b f = U b g := by
 unfold U
 have : ∀ (q : List Int), (∀ t, t ∈ q → f t.toNat = g t.toNat) → ∀ a : List Int, q.foldl (fun a t => uni a (f t.toNat)) a = q.foldl (fun a t => uni a (g t.toNat)) a := by
  intro q
  induction q with
  | nil => exact fun _ _ => rfl
  | cons t q ih => intro h a; simp only [List.foldl_cons]; rw [h t (by simp), ih (fun t ht => h t (by simp [ht]))]
 exact this _ h []
theorem blkIn_mono {b : Block} {l m : List Int} (h : ∀ x, x ∈ l → x ∈ m) {x : Int} (hx : x ∈ blkIn b l) : x ∈ blkIn b m := by
 rw [mem_blkIn] at hx ⊢
 rcases hx with h1 | ⟨h1, h2⟩
 ·exact .inl h1
 ·exact .inr ⟨h _ h1, h2⟩
def fup (I : Nat → List Int) (k : Nat) (l : List Int) : Nat → List Int := fun j => if j = k then l else I j
theorem fup_self (I : Nat → List Int) (k : Nat) (l : List Int) : fup I k l k = l := by simp [fup]
theorem fup_ne (I : Nat → List Int) {k j : Nat} (l : List Int) (h : j ≠ k) : fup I k l j = I j := by simp [fup, h]
def tot (n : Nat) (I : Nat → List Int) : Nat := ((List.range n).map (fun k => (I k).length)).sum
theorem tot_succ (n : Nat) (I : Nat → List Int) : tot (n + 1) I = tot n I + (I n).length := by
 unfold tot; rw [List.range_succ]; simp
theorem tot_congr {n : Nat} {I J : Nat → List Int} (h : ∀ k, k < n → I k = J k) : tot n I = tot n J := by
 unfold tot
 congr 1
 exact List.map_congr_left fun k hk => by rw [h k (List.mem_range.1 hk)]
theorem tot_fup {n : Nat} (I : Nat → List Int) {k : Nat} (hk : k < n) (l : List Int) : tot n (fup I k l) + (I k).length = tot n I + l.length := by
 induction n with
 | zero => omega
 | succ n ih =>
  rw [tot_succ, tot_succ]
  rcases Nat.lt_or_ge k n with q | q
  ·have := ih q
   rw [fup_ne I l (by omega : n ≠ k)]; omega
  ·have : k = n := by omega
   subst this
   rw [fup_self, tot_congr (J := I) fun j hj => fup_ne I l (by omega)]; omega
theorem tot_le {n m : Nat} {I : Nat → List Int} (h : ∀ k, k < n → (I k).length ≤ m) : tot n I ≤ n * m := by
 induction n with
 | zero => simp [tot]
 | succ n ih =>
  rw [tot_succ, Nat.succ_mul]
  have := ih fun k hk => h k (by omega)
  have := h n (by omega)
  omega
structure Inv (c : VFunc) (I O : Nat → List Int) : Prop where
 si : ∀ k, k < c.Blocks.length → Srt (I k)
 so : ∀ k, k < c.Blocks.length → Srt (O k)
 li : ∀ k, k < c.Blocks.length → ∀ x, x ∈ I k → Live c k x
 oo : ∀ k, k < c.Blocks.length → ∀ x, x ∈ O k → x ∈ U (bk c k) I
 ii : ∀ k, k < c.Blocks.length → ∀ x, x ∈ I k → x ∈ blkIn (bk c k) (U (bk c k) I)
theorem Inv.start (c : VFunc) : Inv c (fun _ => []) (fun _ => []) := ⟨fun _ _ => List.Pairwise.nil, fun _ _ => List.Pairwise.nil, fun _ _ _ h => by simp at h, fun _ _ _ h => by simp at h, fun _ _ _ h => by simp at h⟩
theorem Inv.len {c : VFunc} (h : Vd c) {I O : Nat → List Int} (hi : Inv c I O) {k : Nat} (hk : k < c.Blocks.length) : (I k).length ≤ c.Regs.toNat := srt_len (hi.si k hk) fun x hx => by have := (hi.li k hk x hx).reg h; have := h.h.r0; omega
theorem Inv.regU {c : VFunc} (h : Vd c) {I O : Nat → List Int} (hi : Inv c I O) {k : Nat} (hk : k < c.Blocks.length) {x : Int} (hx : x ∈ U (bk c k) I) : 0 ≤ x ∧ x < c.Regs := by
 obtain ⟨t, h1, h2⟩ := mem_U.1 hx
 exact (hi.li _ (h.suc hk h1) x h2).reg h
theorem Inv.lenO {c : VFunc} (h : Vd c) {I O : Nat → List Int} (hi : Inv c I O) {k : Nat} (hk : k < c.Blocks.length) : (O k).length ≤ c.Regs.toNat := srt_len (hi.so k hk) fun x hx => by have := hi.regU h hk (hi.oo k hk x hx); have := h.h.r0; omega
theorem Inv.step {c : VFunc} (h : Vd c) {I O : Nat → List Int} (hi : Inv c I O) {k : Nat} (hk : k < c.Blocks.length) : Inv c (fup I k (blkIn (bk c k) (U (bk c k) I))) (fup O k (U (bk c k) I)) := by
 have grow : ∀ j, j < c.Blocks.length → ∀ x, x ∈ I j → x ∈ fup I k (blkIn (bk c k) (U (bk c k) I)) j := fun j hj x hx => by
  by_cases e : j = k
  ·subst e; rw [fup_self]; exact hi.ii _ hk x hx
  ·rw [fup_ne _ _ e]; exact hx
 have growU : ∀ j, j < c.Blocks.length → ∀ x, x ∈ U (bk c j) I → x ∈ U (bk c j) (fup I k (blkIn (bk c k) (U (bk c k) I))) := fun j hj x hx => by
  obtain ⟨t, h1, h2⟩ := mem_U.1 hx
  exact mem_U.2 ⟨t, h1, grow _ (h.suc hj h1) x h2⟩
 refine ⟨fun j hj => ?_, fun j hj => ?_, fun j hj x hx => ?_, fun j hj x hx => ?_, fun j hj x hx => ?_⟩
 ·by_cases e : j = k
  ·subst e; rw [fup_self]; exact srt_blkIn (srt_U _ _)
  ·rw [fup_ne _ _ e]; exact hi.si j hj
 ·by_cases e : j = k
  ·subst e; rw [fup_self]; exact srt_U _ _
  ·rw [fup_ne _ _ e]; exact hi.so j hj
 ·by_cases e : j = k
  ·subst e; rw [fup_self] at hx
   rcases mem_blkIn.1 hx with h1 | ⟨h1, h2⟩
   ·exact .gen hk h1
   ·obtain ⟨t, h3, h4⟩ := mem_U.1 h1
    exact .thru hk h2 h3 (hi.li _ (h.suc hk h3) x h4)
  ·rw [fup_ne _ _ e] at hx; exact hi.li j hj x hx
 ·by_cases e : j = k
  ·subst e; rw [fup_self] at hx; exact growU _ hj x hx
  ·rw [fup_ne _ _ e] at hx; exact growU j hj x (hi.oo j hj x hx)
 ·by_cases e : j = k
  ·subst e; rw [fup_self] at hx; exact blkIn_mono (growU _ hj) hx
  ·rw [fup_ne _ _ e] at hx; exact blkIn_mono (growU j hj) (hi.ii j hj x hx)
theorem srt_sub_len {a b : List Int} (ha : Srt a) (hb : Srt b) (h : ∀ x, x ∈ a → x ∈ b) : a.length ≤ b.length ∧ (a.length = b.length → a = b) := by
 induction b generalizing a with
 | nil =>
  have : a = [] := List.eq_nil_iff_forall_not_mem.2 fun x hx => by simpa using h x hx
  subst this; exact ⟨by simp, fun _ => rfl⟩
 | cons y b ih =>
  cases a with
  | nil => exact ⟨by simp, fun h => by simp at h⟩
  | cons x a =>
   have h1 := List.pairwise_cons.1 ha
   have h2 := List.pairwise_cons.1 hb
   have hsub : ∀ z, z ∈ a → z ∈ b := fun z hz => by
    rcases List.mem_cons.1 (h z (by simp [hz])) with e | e
    ·subst e
     exfalso
     have hx := h1.1 _ hz
     rcases List.mem_cons.1 (h x (by simp)) with e2 | e2
     ·omega
     ·have := h2.1 x e2; omega
    ·exact e
   obtain ⟨h3, h4⟩ := ih h1.2 h2.2 hsub
   refine ⟨by simp; omega, fun hl => ?_⟩
   have h5 := h4 (by simpa using hl)
   subst h5
   rcases List.mem_cons.1 (h x (by simp)) with e | e
   ·rw [e]
   ·exact absurd (h1.1 x e) (by omega)
structure Pass (c : VFunc) (I0 I O : Nat → List Int) (m : Bool) (j : Nat) : Prop where
 inv : Inv c I O
 le : tot c.Blocks.length I0 ≤ tot c.Blocks.length I
 same : m = false → (∀ k, k < c.Blocks.length → I k = I0 k) ∧ ∀ k, j ≤ k → k < c.Blocks.length → O k = U (bk c k) I ∧ I k = blkIn (bk c k) (U (bk c k) I)
theorem Pass.done {c : VFunc} (h : Vd c) {I0 I O : Nat → List Int} (hp : Pass c I0 I O false 0) : (∀ k, k < c.Blocks.length → I k = LI c k) ∧ ∀ k, k < c.Blocks.length → O k = LO c k := by
 obtain ⟨h1, h2⟩ := hp.same rfl
 have e := LI_of h (fun k hk => ⟨hp.inv.si k hk, hp.inv.li k hk⟩) (fun k hk => (h2 k (by omega) hk).2)
 refine ⟨e, fun k hk => ?_⟩
 rw [(h2 k (by omega) hk).1]
 exact U_congr fun t ht => e _ (h.suc hk ht)
theorem Pass.next {c : VFunc} (h : Vd c) {I0 I O : Nat → List Int} {m m' : Bool} {j : Nat} (hj : j < c.Blocks.length) (hp : Pass c I0 I O m (j + 1)) (hm : m' = false → m = false ∧ blkIn (bk c j) (U (bk c j) I) = I j) :
  Pass c I0 (fup I j (blkIn (bk c j) (U (bk c j) I))) (fup O j (U (bk c j) I)) m' j := by
 refine ⟨hp.inv.step h hj, ?_, fun hm' => ?_⟩
 ·have h1 := tot_fup I hj (blkIn (bk c j) (U (bk c j) I))
  have h2 := (srt_sub_len (hp.inv.si j hj) (srt_blkIn (srt_U _ _)) (hp.inv.ii j hj)).1
  have := hp.le; omega
 ·obtain ⟨h1, h2⟩ := hm hm'
  obtain ⟨h3, h4⟩ := hp.same h1
  have e : fup I j (blkIn (bk c j) (U (bk c j) I)) = I := by
   funext k; unfold fup; split
   ·rename_i hk; subst hk; exact h2
   ·rfl
  rw [e]
  refine ⟨h3, fun k hk1 hk2 => ?_⟩
  by_cases ek : k = j
  ·subst ek; rw [fup_self]; exact ⟨rfl, h2.symm⟩
  ·rw [fup_ne _ _ ek]; exact h4 k (by omega) hk2
end Go.Proofs.YtocfnpnnbmicmaaDoor.Tc
end
section
set_option linter.unusedVariables false
set_option linter.unusedSimpArgs false
namespace Go.Proofs.YtocfnpnnbmicmaaDoor.Tc
open Go
theorem nw_le {R : Int} (h : R ≤ 3000) : nw R ≤ 100 := by unfold nw; omega
theorem transfer_ok {c : VFunc} (h : Vd c) {v : VInstr} (hv : InsV c v) {ws l : List Int} (hr : Rep (nw c.Regs) ws l) : ∃ ws', Ev (fun K _ => liveness_transfer K ws v) ws' ∧ Rep (nw c.Regs) ws' (tr v l) := by
 have hlr : (rd v).length ≤ c.Regs.toNat := srt_len (srt_rd v) fun x hx => by have := hv.r x hx; have := h.h.r0; omega
 have hlw : (wr v).length ≤ 1 := by unfold wr; split <;> simp
 have hR := h.h.r1
 obtain ⟨w1, e1, r1⟩ := remove_l hR hv.w (by unfold Sm; omega) (wr v) [] ws l rfl hr
 obtain ⟨w2, e2, r2⟩ := add_l hR hv.r (by unfold Sm; omega) (rd v) [] w1 _ rfl r1
 refine ⟨w2, ?_, r2⟩
 unfold liveness_transfer
 exact Ev.bindO (vwrites v) (Ev.bind (Ev.loop e1) (Ev.bind (ev_vreads (by have := hv.n; omega)) (Ev.bind (Ev.loop e2) (Ev.some _))))
theorem addTerm_ok {c : VFunc} (h : Vd c) {b : Block} (hb : EndV c b) {ws l : List Int} (hr : Rep (nw c.Regs) ws l) : ∃ ws', liveness_addTerminator ws b = some ws' ∧ Rep (nw c.Regs) ws' (uni l (er b)) := by
 unfold liveness_addTerminator
 cases he : ((b.End == 2) || (b.End == 3)) with
 | false => exact ⟨ws, rfl, by rw [show er b = [] by unfold er; rw [he]; rfl]; exact hr⟩
 | true =>
  have e : er b = [b.Reg] := by unfold er; rw [he]; rfl
  have h1 := hb.e b.Reg (by rw [e]; simp)
  obtain ⟨w1, e1, r1⟩ := add_ok h.h.r1 hr h1.1 h1.2
  refine ⟨w1, ?_, by rw [e]; exact r1⟩
  simp only [cnd, e1, Option.bind_some]
theorem block_l5 {c : VFunc} (h : Vd c) {b : Block} (hb : b.Instrs.length ≤ 2199023255552) (hv : ∀ v, v ∈ b.Instrs → InsV c v) : ∀ (n : Nat) (p q : List VInstr) (ws l : List Int), p.length = n → b.Instrs = p ++ q → Rep (nw c.Regs) ws l →
  ∃ ws', Ev (fun K k => liveness_analyze_l5 K b k ((n : Int) - 1, ws)) ws' ∧ Rep (nw c.Regs) ws' (p.foldr tr l) := by
 intro n
 induction n with
 | zero =>
  intro p q ws l hp he hr
  have : p = [] := List.eq_nil_of_length_eq_zero hp
  subst this
  exact ⟨ws, Ev.step (fun K k => rfl) (Ev.f (by simp) (Ev.some _)), hr⟩
 | succ n ih =>
  intro p q ws l hp he hr
  obtain ⟨p', v, rfl⟩ : ∃ p' v, p = p' ++ [v] := ⟨p.dropLast, p.getLast (by intro e; subst e; simp at hp), (List.dropLast_concat_getLast _).symm⟩
  have hl : p'.length = n := by simpa using hp
  have hin : b.Instrs.length = n + 1 + q.length := by rw [he]; simp; omega
  obtain ⟨w1, e1, r1⟩ := transfer_ok h (hv v (by rw [he]; simp)) hr
  obtain ⟨w2, e2, r2⟩ := ih p' (v :: q) w1 _ hl (by rw [he]; simp) r1
  have hg : idx b.Instrs (((n + 1 : Nat) : Int) - 1) = some v := by
   rw [show ((n + 1 : Nat) : Int) - 1 = (n : Int) by omega]
   refine idx_eq ?_
   rw [he, ← hl]; simp
  have hw : w64 (((n + 1 : Nat) : Int) - 1 - 1) = (n : Int) - 1 := by rw [w64_id (by omega) (by omega)]; omega
  refine ⟨w2, Ev.step (fun K k => rfl) (Ev.t (by simp) (Ev.bindO hg (Ev.bind e1 ?_))), by rw [List.foldr_append]; exact r2⟩
  rw [hw]; exact e2
structure RepS (n w : Nat) (rows : List (List Int)) (I : Nat → List Int) : Prop where
 l : rows.length = n
 r : ∀ k, k < n → ∃ ws, rows[k]? = some ws ∧ Rep w ws (I k)
theorem RepS.set {n w : Nat} {rows : List (List Int)} {I : Nat → List Int} (h : RepS n w rows I) {k : Nat} (hk : k < n) {ws l : List Int} (hr : Rep w ws l) : RepS n w (rows.set k ws) (fup I k l) := ⟨by rw [List.length_set]; exact h.l, fun j hj => by
 by_cases e : j = k
 ·subst e; rw [fup_self]; exact ⟨ws, List.getElem?_set_self (by rw [h.l]; exact hk), hr⟩
 ·rw [fup_ne _ _ e, List.getElem?_set_ne (Ne.symm e)]; exact h.r j hj⟩
theorem sets_same {α : Type} {l : List α} {k : Nat} {x : α} (h : l[k]? = some x) : l.set k x = l := by
 refine List.ext_getElem? fun j => ?_
 by_cases e : j = k
 ·subst e
  rw [List.getElem?_set_self (by
   rcases Nat.lt_or_ge j l.length with q | q
   ·exact q
   ·rw [List.getElem?_eq_none q] at h; cases h), h]
 ·rw [List.getElem?_set_ne (Ne.symm e)]
theorem fup_fup (I : Nat → List Int) (k : Nat) (a b : List Int) : fup (fup I k a) k b = fup I k b := by
 funext j; unfold fup; split <;> rfl
theorem fup_same (I : Nat → List Int) (k : Nat) : fup I k (I k) = I := by
 funext j; unfold fup; split
 ·rename_i h; rw [h]
 ·rfl
theorem analyze_l4 {c : VFunc} (h : Vd c) {I : Nat → List Int} {s : Bool × Int × List (List Int) × List (List Int)} {r : List Int} (hr : ∀ t, t ∈ r → 0 ≤ t ∧ t < (c.Blocks.length : Int)) (hr2 : r.length ≤ 2) {j : Nat} (hj : j < c.Blocks.length) (hs : s.2.1 = (j : Int)) {ins : List (List Int)} (hI : RepS c.Blocks.length (nw c.Regs) ins I) : ∀ (q p : List Int) (outs : List (List Int)) (O : Nat → List Int), r = p ++ q → RepS c.Blocks.length (nw c.Regs) outs O →
  ∃ outs', Ev (fun K k => liveness_analyze_l4 K s r k ((p.length : Int), outs, ins)) (outs', ins) ∧ RepS c.Blocks.length (nw c.Regs) outs' (fup O j (q.foldl (fun a t => uni a (I t.toNat)) (O j))) := by
 intro q
 induction q with
 | nil =>
  intro p outs O he hO
  refine ⟨outs, Ev.step (fun K k => rfl) (Ev.f ?_ (Ev.some _)), ?_⟩
  ·subst he; simp
  ·simp only [List.foldl_nil, fup_same]; exact hO
 | cons t q ih =>
  intro p outs O he hO
  have hlt : (p.length : Int) < (r.length : Int) := by subst he; simp; omega
  have hg : idx r (p.length : Int) = some t := idx_eq (by subst he; simp)
  have hw : w64 ((p.length : Int) + 1) = ((p ++ [t]).length : Int) := by
   rw [w64_id (by omega) (by omega)]; simp
  have ht := hr t (by subst he; simp)
  obtain ⟨wo, ho1, ho2⟩ := hO.r j hj
  obtain ⟨wi, hi1, hi2⟩ := hI.r t.toNat (by omega)
  obtain ⟨w1, e1, r1⟩ := ev_sunion (nw_le h.h.r1) ho2 hi2
  obtain ⟨o2, e2, r2⟩ := ih (p ++ [t]) (outs.set j w1) _ (by subst he; simp) (hO.set hj r1)
  have hgt : idx ins t = some wi := by
   have := idx_eq hi1
   rwa [show ((t.toNat : Nat) : Int) = t by omega] at this
  refine ⟨o2, Ev.step (fun K k => rfl) (Ev.t (by simpa using hlt) (Ev.bindO hg (Ev.bindO (x := wo) (by rw [hs]; exact idx_eq ho1) (Ev.bindO hgt (Ev.bind e1 ?_))))), ?_⟩
  ·show Ev (fun K k => liveness_analyze_l4 K s r k (w64 ((p.length : Int) + 1), outs.set s.2.1.toNat w1, ins.set t.toNat wi)) _
   rw [hw, hs, sets_same hi1]; exact e2
  ·rw [fup_fup, fup_self] at r2; exact r2
theorem ufold_inv {c : VFunc} {I O : Nat → List Int} (hi : Inv c I O) {j : Nat} (hj : j < c.Blocks.length) : (su (bk c j)).foldl (fun a t => uni a (I t.toNat)) (O j) = U (bk c j) I := by
 refine srt_ext (srt_ufold _ _ (hi.so j hj)) (srt_U _ _) fun x => ?_
 rw [mem_ufold]
 constructor
 ·rintro (h1 | h1)
  ·exact hi.oo j hj x h1
  ·exact mem_U.2 h1
 ·exact fun h1 => .inr (mem_U.1 h1)
theorem uni_inv {c : VFunc} {I O : Nat → List Int} (hi : Inv c I O) {j : Nat} (hj : j < c.Blocks.length) : uni (I j) (blkIn (bk c j) (U (bk c j) I)) = blkIn (bk c j) (U (bk c j) I) := by
 refine srt_ext (srt_uni (hi.si j hj)) (srt_blkIn (srt_U _ _)) fun x => ?_
 rw [mem_uni]
 exact ⟨fun h => h.elim (hi.ii j hj x) id, .inr⟩
theorem app_nil {bytes : Nat} {l : List Int} (h : l.length * bytes ≤ 140737488355328) (h2 : l.length ≤ 281474976710656) : app bytes ([] : List Int) l = some l := by
 rw [app_eq (by simpa using h) (by simpa using h2)]; simp
theorem analyze_l3 {c : VFunc} (h : Vd c) {I0 : Nat → List Int} : ∀ (n : Nat) (m : Bool) (ins outs : List (List Int)) (I O : Nat → List Int), n ≤ c.Blocks.length → Pass c I0 I O m n → (m = true → tot c.Blocks.length I0 < tot c.Blocks.length I) → RepS c.Blocks.length (nw c.Regs) ins I → RepS c.Blocks.length (nw c.Regs) outs O →
  ∃ m' ins' outs' I' O', Ev (fun K k => liveness_analyze_l3 K c k (m, (n : Int) - 1, outs, ins)) (m', outs', ins') ∧ Pass c I0 I' O' m' 0 ∧ (m' = true → tot c.Blocks.length I0 < tot c.Blocks.length I') ∧ RepS c.Blocks.length (nw c.Regs) ins' I' ∧ RepS c.Blocks.length (nw c.Regs) outs' O' := by
 have hb1 := h.h.b1
 have hnw := nw_le h.h.r1
 intro n
 induction n with
 | zero =>
  intro m ins outs I O hn hp hm hI hO
  exact ⟨m, ins, outs, I, O, Ev.step (fun K k => rfl) (Ev.f (by simp) (Ev.some _)), hp, hm, hI, hO⟩
 | succ n ih =>
  intro m ins outs I O hn hp hm hI hO
  have hk : n < c.Blocks.length := hn
  have hidx : ((n + 1 : Nat) : Int) - 1 = (n : Int) := by omega
  have hw : w64 ((n : Int) - 1) = (n : Int) - 1 := w64_id (by omega) (by omega)
  obtain ⟨o1, e1, r1⟩ := analyze_l4 h (I := I) (s := (m, (n : Int), outs, ins)) (h.e hk).s (su_len _) hk rfl hI (su (bk c n)) [] outs O rfl hO
  rw [ufold_inv hp.inv hk] at r1
  obtain ⟨wo, ho1, ho2⟩ := r1.r n hk
  rw [fup_self] at ho2
  obtain ⟨w2, e2, r2⟩ := addTerm_ok h (h.e hk) ho2
  obtain ⟨w3, e3, r3⟩ := block_l5 h (h.len hk) (fun v hv => h.i hk hv) _ (bk c n).Instrs [] w2 _ rfl (by simp) r2
  have r3' : Rep (nw c.Regs) w3 (blkIn (bk c n) (U (bk c n) I)) := r3
  obtain ⟨wi, hi1, hi2⟩ := hI.r n hk
  obtain ⟨w4, e4, r4⟩ := ev_sunion hnw hi2 r3'
  rw [uni_inv hp.inv hk] at r4
  have hlen := h.len hk
  have hwl : w64 (((bk c n).Instrs.length : Int) - 1) = ((bk c n).Instrs.length : Int) - 1 := w64_id (by omega) (by omega)
  let d : Bool := decide (∃ x, x ∈ blkIn (bk c n) (U (bk c n) I) ∧ x ∉ I n)
  have hd : d = false → blkIn (bk c n) (U (bk c n) I) = I n := fun hd => by
   have hd := of_decide_eq_false hd
   refine srt_ext (srt_blkIn (srt_U _ _)) (hp.inv.si n hk) fun x => ⟨fun hx => ?_, hp.inv.ii n hk x⟩
   exact Classical.byContradiction fun hc => hd ⟨x, hx, hc⟩
  have hp' : Pass c I0 _ _ (m || d) n := hp.next h hk (m' := m || d) fun hf => by
   simp only [Bool.or_eq_false_iff] at hf
   exact ⟨hf.1, hd hf.2⟩
  have hm' : (m || d) = true → tot c.Blocks.length I0 < tot c.Blocks.length (fup I n (blkIn (bk c n) (U (bk c n) I))) := fun hf => by
   have h1 := tot_fup I hk (blkIn (bk c n) (U (bk c n) I))
   have h2 := srt_sub_len (hp.inv.si n hk) (srt_blkIn (srt_U (bk c n) I)) (hp.inv.ii n hk)
   cases hmm : m with
   | true => have := hm hmm; omega
   | false =>
    rw [hmm, Bool.false_or] at hf
    obtain ⟨x, h3, h4⟩ := of_decide_eq_true hf
    have h5 : (I n).length ≠ (blkIn (bk c n) (U (bk c n) I)).length := fun e => h4 (by rw [h2.2 e]; exact h3)
    have := hp.le; omega
  obtain ⟨m', ins', outs', I', O', e5, h5⟩ := ih (m || d) (ins.set n w4) o1 _ _ (by omega) hp' hm' (hI.set hk r4) r1
  refine ⟨m', ins', outs', I', O', Ev.step (fun K k => rfl) (Ev.t (by simp) (Ev.bind (x := (m || d, o1, ins.set n w4)) ?_ ?_)), h5⟩
  ·simp only [hidx]
   refine Ev.bindO (bk_idx hk) (Ev.bind (ev_vsucc _) (Ev.bind (Ev.loop e1) (Ev.bindO (x := wo) (idx_eq ho1) (Ev.bindO (app_nil (by rw [ho2.w.1]; omega) (by rw [ho2.w.1]; omega)) (Ev.bindO e2 ?_)))))
   simp only [hwl]
   refine Ev.bind (Ev.loop e3) (Ev.bindO (x := wi) (idx_eq hi1) (Ev.bind e4 ?_))
   simp only [Int.toNat_natCast, sets_same ho1]
   refine Ev.cnd (fun hc => ?_) (fun hc => ?_)
   ·have : d = true := hc
    exact (Ev.some _).cast (by rw [this]; simp)
   ·have : d = false := hc
    exact (Ev.some _).cast (by rw [this]; simp)
  ·show Ev (fun K k => liveness_analyze_l3 K c k (m || d, w64 (((n + 1 : Nat) : Int) - 1 - 1), o1, ins.set n w4)) _
   rw [hidx, hw]; exact e5
theorem tot_bound {c : VFunc} (h : Vd c) {I O : Nat → List Int} (hi : Inv c I O) : tot c.Blocks.length I ≤ 3000000 := by
 have h1 := tot_le (n := c.Blocks.length) (m := 3000) (I := I) fun k hk => by have := hi.len h hk; have := h.h.r1; omega
 have := h.h.b1; omega
theorem analyze_l2 {c : VFunc} (h : Vd c) : ∀ (B : Nat) (ins outs : List (List Int)) (I O : Nat → List Int), 3000000 ≤ tot c.Blocks.length I + B → Inv c I O → RepS c.Blocks.length (nw c.Regs) ins I → RepS c.Blocks.length (nw c.Regs) outs O →
  ∃ ins' outs', Ev (fun K k => liveness_analyze_l2 K c k (true, outs, ins)) (outs', ins') ∧ RepS c.Blocks.length (nw c.Regs) ins' (LI c) ∧ RepS c.Blocks.length (nw c.Regs) outs' (LO c) := by
 have hb1 := h.h.b1
 intro B
 induction B with
 | zero =>
  intro ins outs I O hB hi hI hO
  have hw : w64 ((c.Blocks.length : Int) - 1) = (c.Blocks.length : Int) - 1 := w64_id (by omega) (by omega)
  obtain ⟨m', ins', outs', I', O', e, hp, hm, r1, r2⟩ := analyze_l3 h (I0 := I) c.Blocks.length false ins outs I O (Nat.le_refl _) ⟨hi, Nat.le_refl _, fun _ => ⟨fun _ _ => rfl, fun k h1 h2 => by omega⟩⟩ (fun h => by cases h) hI hO
  cases hmm : m' with
  | true => have := hm hmm; have := tot_bound h hp.inv; omega
  | false =>
   subst hmm
   obtain ⟨d1, d2⟩ := hp.done h
   refine ⟨ins', outs', Ev.step (fun K k => rfl) (Ev.t rfl ?_), ⟨r1.l, fun k hk => by rw [← d1 k hk]; exact r1.r k hk⟩, ⟨r2.l, fun k hk => by rw [← d2 k hk]; exact r2.r k hk⟩⟩
   simp only [hw]
   exact Ev.bind (Ev.loop e) (Ev.step (fun K k => rfl) (Ev.f rfl (Ev.some _)))
 | succ B ih =>
  intro ins outs I O hB hi hI hO
  have hw : w64 ((c.Blocks.length : Int) - 1) = (c.Blocks.length : Int) - 1 := w64_id (by omega) (by omega)
  obtain ⟨m', ins', outs', I', O', e, hp, hm, r1, r2⟩ := analyze_l3 h (I0 := I) c.Blocks.length false ins outs I O (Nat.le_refl _) ⟨hi, Nat.le_refl _, fun _ => ⟨fun _ _ => rfl, fun k h1 h2 => by omega⟩⟩ (fun h => by cases h) hI hO
  cases hmm : m' with
  | true =>
   obtain ⟨i2, o2, e2, h2⟩ := ih ins' outs' I' O' (by have := hm hmm; omega) hp.inv r1 r2
   subst hmm
   refine ⟨i2, o2, Ev.step (fun K k => rfl) (Ev.t rfl ?_), h2⟩
   simp only [hw]
   exact Ev.bind (Ev.loop e) e2
  | false =>
   subst hmm
   obtain ⟨d1, d2⟩ := hp.done h
   refine ⟨ins', outs', Ev.step (fun K k => rfl) (Ev.t rfl ?_), ⟨r1.l, fun k hk => by rw [← d1 k hk]; exact r1.r k hk⟩, ⟨r2.l, fun k hk => by rw [← d2 k hk]; exact r2.r k hk⟩⟩
   simp only [hw]
   exact Ev.bind (Ev.loop e) (Ev.step (fun K k => rfl) (Ev.f rfl (Ev.some _)))
theorem analyze_l1 {c : VFunc} (h : Vd c) {l2 : List (List Int)} (hl : l2.length = c.Blocks.length) {ws : List Int} (he : liveness_empty c.Regs = some ws) : ∀ (n j : Nat) (outs ins : List (List Int)), n + j = c.Blocks.length → outs.length = c.Blocks.length → ins.length = c.Blocks.length → (∀ i, i < j → outs[i]? = some ws ∧ ins[i]? = some ws) →
  ∃ outs' ins', Ev (fun K k => liveness_analyze_l1 K c l2 k ((j : Int), outs, ins)) (outs', ins') ∧ outs'.length = c.Blocks.length ∧ ins'.length = c.Blocks.length ∧ ∀ i, i < c.Blocks.length → outs'[i]? = some ws ∧ ins'[i]? = some ws := by
 have hb1 := h.h.b1
 intro n
 induction n with
 | zero =>
  intro j outs ins hn ho hi hall
  refine ⟨outs, ins, Ev.step (fun K k => rfl) (Ev.f ?_ (Ev.some _)), ho, hi, fun i hlt => hall i (by omega)⟩
  simp [hl]; omega
 | succ n ih =>
  intro j outs ins hn ho hi hall
  have hw : w64 ((j : Int) + 1) = ((j + 1 : Nat) : Int) := by rw [w64_id (by omega) (by omega)]; simp
  obtain ⟨o2, i2, e, h2⟩ := ih (j + 1) (outs.set j ws) (ins.set j ws) (by omega) (by simpa using ho) (by simpa using hi) fun i hlt => by
   by_cases q : i = j
   ·subst q
    exact ⟨List.getElem?_set_self (by omega), List.getElem?_set_self (by omega)⟩
   ·rw [List.getElem?_set_ne (Ne.symm q), List.getElem?_set_ne (Ne.symm q)]
    exact hall i (by omega)
  refine ⟨o2, i2, Ev.step (fun K k => rfl) (Ev.t (by simp [hl]; omega) (Ev.bindO (idx_get (l := ins) (i := j) (by omega)) (Ev.bindO he (Ev.bindO he (Ev.bindO (idx_get (l := outs) (i := j) (by omega)) ?_))))), h2⟩
  show Ev (fun K k => liveness_analyze_l1 K c l2 k (w64 ((j : Int) + 1), outs.set (j : Int).toNat ws, ins.set (j : Int).toNat ws)) _
  rw [hw]; exact e
theorem ev_analyze {c : VFunc} (h : Vd c) : ∃ ins outs, Ev (fun K _ => liveness_analyze K c) (ins, outs) ∧ RepS c.Blocks.length (nw c.Regs) ins (LI c) ∧ RepS c.Blocks.length (nw c.Regs) outs (LO c) := by
 have hb1 := h.h.b1
 obtain ⟨ws, he, hr⟩ := empty_ok h.h.r0 h.h.r1
 have hl : (List.replicate c.Blocks.length ([] : List Int)).length = c.Blocks.length := by simp
 obtain ⟨o1, i1, e1, h1, h2, h3⟩ := analyze_l1 h hl he c.Blocks.length 0 _ _ (by omega) hl hl fun i hi => by omega
 obtain ⟨i2, o2, e2, r1, r2⟩ := analyze_l2 h 3000000 i1 o1 (fun _ => []) (fun _ => []) (by omega) (Inv.start c) ⟨h2, fun k hk => ⟨ws, (h3 k hk).2, hr⟩⟩ ⟨h1, fun k hk => ⟨ws, (h3 k hk).1, hr⟩⟩
 refine ⟨i2, o2, ?_, r1, r2⟩
 unfold liveness_analyze
 have hmk : mk 24 (c.Blocks.length : Int) ([] : List Int) = some (List.replicate c.Blocks.length []) := mk_eq (by omega) (by omega)
 exact Ev.bindO hmk (Ev.bindO hmk (Ev.bind (Ev.loop e1) (Ev.bind (Ev.loop e2) (Ev.some _))))
end Go.Proofs.YtocfnpnnbmicmaaDoor.Tc
end
section
set_option linter.unusedVariables false
set_option linter.unusedSimpArgs false
namespace Go.Proofs.YtocfnpnnbmicmaaDoor.Tc
open Go
structure RS (c : VFunc) (l : List Int) : Prop where
 s : Srt l
 r : ∀ x, x ∈ l → 0 ≤ x ∧ x < c.Regs
theorem RS.len {c : VFunc} (h : Vd c) {l : List Int} (hl : RS c l) : l.length ≤ 3000 := by
 have := srt_len (n := 3000) hl.s fun x hx => by have := hl.r x hx; have := h.h.r1; omega
 exact this
theorem RS.nil (c : VFunc) : RS c [] := ⟨List.Pairwise.nil, fun _ h => by simp at h⟩
theorem RS.uni {c : VFunc} {a b : List Int} (ha : RS c a) (hb : ∀ x, x ∈ b → 0 ≤ x ∧ x < c.Regs) : RS c (uni a b) := ⟨srt_uni ha.s, fun x hx => by
 rcases mem_uni.1 hx with e | e
 ·exact ha.r x e
 ·exact hb x e⟩
theorem RS.mns {c : VFunc} {a : List Int} (ha : RS c a) (b : List Int) : RS c (mns a b) := ⟨srt_mns ha.s, fun x hx => ha.r x (mem_mns.1 hx).1⟩
theorem RS.tr {c : VFunc} {v : VInstr} (hv : InsV c v) {l : List Int} (hl : RS c l) : RS c (tr v l) := (hl.mns _).uni hv.r
theorem RS.foldr {c : VFunc} {vs : List VInstr} (hv : ∀ v, v ∈ vs → InsV c v) {l : List Int} (hl : RS c l) : RS c (vs.foldr Tc.tr l) := by
 induction vs with
 | nil => exact hl
 | cons v vs ih => exact (ih fun w hw => hv w (by simp [hw])).tr (hv v (by simp))
theorem Vd.iv {c : VFunc} (h : Vd c) {k : Nat} (hk : k < c.Blocks.length) : ∀ v, v ∈ (bk c k).Instrs → InsV c v := fun v hv => h.i hk hv
theorem RS.LI {c : VFunc} (h : Vd c) (k : Nat) : RS c (LI c k) := ⟨srt_LI c k, fun x hx => ((mem_LI h).1 hx).reg h⟩
theorem RS.LO {c : VFunc} (h : Vd c) (k : Nat) : RS c (LO c k) := ⟨srt_LO c k, fun x hx => by
 obtain ⟨t, _, h2⟩ := mem_U.1 hx
 exact ((mem_LI h).1 h2).reg h⟩
def lp (b : Block) (o : List Int) (k : Nat) : List Int := (b.Instrs.drop k).foldr tr (uni o (er b))
def lps (b : Block) (o : List Int) : List (List Int) := (List.range (b.Instrs.length + 1)).map (lp b o)
theorem RS.lp {c : VFunc} {b : Block} (hv : ∀ v, v ∈ b.Instrs → InsV c v) (he : EndV c b) {o : List Int} (ho : RS c o) (k : Nat) : RS c (lp b o k) := (ho.uni he.e).foldr fun v hv2 => hv v (List.mem_of_mem_drop hv2)
theorem lp_last (b : Block) (o : List Int) : lp b o b.Instrs.length = uni o (er b) := by unfold lp; rw [List.drop_length]; rfl
theorem lp_step {b : Block} {o : List Int} {k : Nat} {v : VInstr} (h : b.Instrs[k]? = some v) : lp b o k = tr v (lp b o (k + 1)) := by
 have hlt : k < b.Instrs.length := by
  rcases Nat.lt_or_ge k b.Instrs.length with q | q
  ·exact q
  ·rw [List.getElem?_eq_none q] at h; cases h
 have : b.Instrs.drop k = v :: b.Instrs.drop (k + 1) := by
  rw [List.drop_eq_getElem_cons hlt]; rw [List.getElem?_eq_getElem hlt] at h; rw [Option.some.inj h]
 unfold lp; rw [this]; rfl
def fillD (n : Nat) (f : Nat → List Int) (j : Nat) : List (List Int) := List.replicate j [] ++ (List.range' j (n + 1 - j)).map f
theorem fillD_len {n j : Nat} (f : Nat → List Int) (h : j ≤ n + 1) : (fillD n f j).length = n + 1 := by unfold fillD; simp; omega
theorem fillD_get {n j i : Nat} (f : Nat → List Int) (h : j ≤ i) (h2 : i ≤ n) : (fillD n f j)[i]? = some (f i) := by
 unfold fillD
 rw [List.getElem?_append_right (by simpa using h)]
 simp only [List.length_replicate, List.getElem?_map]
 rw [List.getElem?_range' (by omega)]
 simp; congr 1; omega
theorem fillD_set {n j : Nat} (f : Nat → List Int) (h : j ≤ n) : (fillD n f (j + 1)).set j (f j) = fillD n f j := by
 refine List.ext_getElem? fun i => ?_
 rcases Nat.lt_trichotomy i j with q | q | q
 ·rw [List.getElem?_set_ne (by omega)]
  unfold fillD
  rw [List.getElem?_append_left (by simp; omega), List.getElem?_append_left (by simp; omega), List.getElem?_replicate, List.getElem?_replicate]
  rw [if_pos (by omega), if_pos q]
 ·subst q
  rw [List.getElem?_set_self (by rw [fillD_len f (by omega)]; omega), fillD_get f (Nat.le_refl _) h]
 ·rw [List.getElem?_set_ne (by omega)]
  rcases Nat.lt_or_ge n i with q2 | q2
  ·rw [List.getElem?_eq_none (by rw [fillD_len f (by omega)]; omega), List.getElem?_eq_none (by rw [fillD_len f (by omega)]; omega)]
  ·rw [fillD_get f (by omega) q2, fillD_get f (by omega) q2]
theorem fillD_zero (n : Nat) (f : Nat → List Int) : fillD n f 0 = (List.range (n + 1)).map f := by
 unfold fillD; simp [List.range_eq_range']
theorem fillD_top (n : Nat) (f : Nat → List Int) : (List.replicate (n + 1) ([] : List Int)).set n (f n) = fillD n f n := by
 rw [← fillD_set f (Nat.le_refl n)]
 unfold fillD; simp
theorem ev_livePoints {c : VFunc} (h : Vd c) {b : Block} (hb : b.Instrs.length ≤ 2199023255552) (hv : ∀ v, v ∈ b.Instrs → InsV c v) (he : EndV c b) {o : List Int} (ho : RS c o) : Ev (fun K _ => ref32_livePoints K b o) (lps b o) := by
 have loop : ∀ j, j ≤ b.Instrs.length → Ev (fun K k => ref32_livePoints_l1 K b k ((j : Int) - 1, fillD b.Instrs.length (lp b o) j)) (lps b o) := by
  intro j
  induction j with
  | zero =>
   intro _
   refine Ev.step (fun K k => rfl) (Ev.f (by simp) ((Ev.some _).cast ?_))
   exact fillD_zero _ _
  | succ j ih =>
   intro hj
   have hlt : j < b.Instrs.length := hj
   have hidx : ((j + 1 : Nat) : Int) - 1 = (j : Int) := by omega
   have hw : w64 ((j : Int) + 1) = ((j + 1 : Nat) : Int) := by rw [w64_id (by omega) (by omega)]; simp
   have hw2 : w64 ((j : Int) - 1) = (j : Int) - 1 := w64_id (by omega) (by omega)
   have hgv : b.Instrs[j]? = some b.Instrs[j] := List.getElem?_eq_getElem hlt
   have hvv := hv _ (List.mem_of_getElem? hgv)
   have r1 := (RS.lp hv he ho (j + 1)).len h
   have r2 := ((RS.lp hv he ho (j + 1)).mns (wr b.Instrs[j])).len h
   have hwl : (wr b.Instrs[j]).length ≤ 1 := by unfold wr; split <;> simp
   have hrl : (rd b.Instrs[j]).length ≤ 3000 := RS.len h ⟨srt_rd _, hvv.r⟩
   refine Ev.step (fun K k => rfl) (Ev.t (by simp) ?_)
   simp only [hidx, hw, hw2]
   refine Ev.bindO (idx_eq (fillD_get _ (Nat.le_refl _) (by omega))) (Ev.bindO (idx_eq hgv) (Ev.bindO (rwrites _) (Ev.bind (ev_minus (by unfold Sm; omega) (by unfold Sm; omega)) (Ev.bindO (idx_eq hgv) (Ev.bind (ev_rreads (by have := hvv.n; omega)) (Ev.bind (ev_union (by unfold Sm; omega) (by unfold Sm; omega) (by omega)) (Ev.bindO (idx_get (i := j) (by rw [fillD_len _ (by omega)]; omega)) ?_)))))))
   have e : uni (mns (lp b o (j + 1)) (wr b.Instrs[j])) (rd b.Instrs[j]) = lp b o j := (lp_step hgv).symm
   simp only [Int.toNat_natCast, e, fillD_set _ (show j ≤ b.Instrs.length by omega)]
   exact ih (by omega)
 have hw : w64 ((b.Instrs.length : Int) + 1) = ((b.Instrs.length + 1 : Nat) : Int) := by rw [w64_id (by omega) (by omega)]; simp
 have hw2 : w64 ((b.Instrs.length : Int) - 1) = (b.Instrs.length : Int) - 1 := w64_id (by omega) (by omega)
 have hol := ho.len h
 have hel : (er b).length ≤ 1 := by unfold er; split <;> simp
 unfold ref32_livePoints
 rw [hw, hw2]
 refine Ev.bindO (mk_eq (by omega) (by omega)) (Ev.bindO (rendreads b) (Ev.bind (ev_union (by unfold Sm; omega) (by unfold Sm; omega) (by omega)) (Ev.bindO (idx_get (i := b.Instrs.length) (by simp)) ?_)))
 rw [Int.toNat_natCast, ← lp_last, fillD_top]
 exact Ev.bind (Ev.loop (loop _ (Nat.le_refl _))) (Ev.some _)
structure RepL (n : Nat) (rows : List (List Int)) (I : Nat → List Int) : Prop where
 l : rows.length = n
 r : ∀ k, k < n → rows[k]? = some (I k)
theorem RepL.set {n : Nat} {rows : List (List Int)} {I : Nat → List Int} (h : RepL n rows I) {k : Nat} (hk : k < n) (l : List Int) : RepL n (rows.set k l) (fup I k l) := ⟨by rw [List.length_set]; exact h.l, fun j hj => by
 by_cases e : j = k
 ·subst e; rw [fup_self]; exact List.getElem?_set_self (by rw [h.l]; exact hk)
 ·rw [fup_ne _ _ e, List.getElem?_set_ne (Ne.symm e)]; exact h.r j hj⟩
theorem RepL.eq {n : Nat} {rows : List (List Int)} {I : Nat → List Int} (h : RepL n rows I) : rows = (List.range n).map I := by
 refine List.ext_getElem? fun j => ?_
 rcases Nat.lt_or_ge j n with q | q
 ·rw [h.r j q, List.getElem?_map, List.getElem?_range q]; rfl
 ·rw [List.getElem?_eq_none (by rw [h.l]; exact q), List.getElem?_eq_none (by simpa using q)]
theorem rb_l3 {c : VFunc} (h : Vd c) {I : Nat → List Int} (hI : ∀ k, k < c.Blocks.length → RS c (I k)) {s : Bool × Int × List (List Int) × List (List Int)} {r : List Int} (hr : ∀ t, t ∈ r → 0 ≤ t ∧ t < (c.Blocks.length : Int)) (hr2 : r.length ≤ 2) (hs : RepL c.Blocks.length s.2.2.2 I) : ∀ (q p : List Int) (a : List Int), r = p ++ q → RS c a → Ev (fun K k => ref32_LiveBlocks_l3 K s r k (a, (p.length : Int))) (q.foldl (fun a t => uni a (I t.toNat)) a) := by
 intro q
 induction q with
 | nil =>
  intro p a he _
  refine Ev.step (fun K k => rfl) (Ev.f ?_ (Ev.some _))
  subst he; simp
 | cons t q ih =>
  intro p a he ha
  have hlt : (p.length : Int) < (r.length : Int) := by subst he; simp; omega
  have hg : idx r (p.length : Int) = some t := idx_eq (by subst he; simp)
  have hw : w64 ((p.length : Int) + 1) = ((p ++ [t]).length : Int) := by
   rw [w64_id (by omega) (by omega)]; simp
  have ht := hr t (by subst he; simp)
  have hgt : idx s.2.2.2 t = some (I t.toNat) := by
   have := idx_eq (hs.r t.toNat (by omega))
   rwa [show ((t.toNat : Nat) : Int) = t by omega] at this
  have hi := hI t.toNat (by omega)
  have l1 := ha.len h
  have l2 := hi.len h
  refine Ev.step (fun K k => rfl) (Ev.t (by simpa using hlt) (Ev.bindO hg (Ev.bindO hgt (Ev.bind (ev_union (a := a) (b := I t.toNat) (by unfold Sm; omega) (by unfold Sm; omega) (by omega)) ?_))))
  show Ev (fun K k => ref32_LiveBlocks_l3 K s r k (uni a (I t.toNat), w64 ((p.length : Int) + 1))) _
  rw [hw]
  exact ih (p ++ [t]) _ (by subst he; simp) (ha.uni hi.r)
theorem Inv.rs {c : VFunc} (h : Vd c) {I O : Nat → List Int} (hi : Inv c I O) {k : Nat} (hk : k < c.Blocks.length) : RS c (I k) := ⟨hi.si k hk, fun x hx => (hi.li k hk x hx).reg h⟩
theorem Inv.rsU {c : VFunc} (h : Vd c) {I O : Nat → List Int} (hi : Inv c I O) {k : Nat} (hk : k < c.Blocks.length) : RS c (U (bk c k) I) := ⟨srt_U _ _, fun x hx => hi.regU h hk hx⟩
theorem rb_l2 {c : VFunc} (h : Vd c) {I0 : Nat → List Int} {tO : Nat} : ∀ (n : Nat) (m : Bool) (ins outs : List (List Int)) (I O : Nat → List Int), n ≤ c.Blocks.length → Pass c I0 I O m n → (m = true → tot c.Blocks.length I0 + tO < tot c.Blocks.length I + tot c.Blocks.length O) → tO ≤ tot c.Blocks.length O → RepL c.Blocks.length ins I → RepL c.Blocks.length outs O →
  ∃ m' ins' outs' I' O', Ev (fun K k => ref32_LiveBlocks_l2 K c k (m, (n : Int) - 1, outs, ins)) (m', outs', ins') ∧ Pass c I0 I' O' m' 0 ∧ (m' = true → tot c.Blocks.length I0 + tO < tot c.Blocks.length I' + tot c.Blocks.length O') ∧ RepL c.Blocks.length ins' I' ∧ RepL c.Blocks.length outs' O' := by
 have hb1 := h.h.b1
 intro n
 induction n with
 | zero =>
  intro m ins outs I O hn hp hm _ hI hO
  exact ⟨m, ins, outs, I, O, Ev.step (fun K k => rfl) (Ev.f (by simp) (Ev.some _)), hp, hm, hI, hO⟩
 | succ n ih =>
  intro m ins outs I O hn hp hm hto hI hO
  have hk : n < c.Blocks.length := hn
  have hidx : ((n + 1 : Nat) : Int) - 1 = (n : Int) := by omega
  have hw : w64 ((n : Int) - 1) = (n : Int) - 1 := w64_id (by omega) (by omega)
  have e1 := rb_l3 h (I := I) (fun k hk => hp.inv.rs h hk) (s := (m, (n : Int), outs, ins)) (h.e hk).s (su_len _) hI (su (bk c n)) [] [] rfl (RS.nil c)
  have hlen := h.len hk
  let o := U (bk c n) I
  let i := blkIn (bk c n) (U (bk c n) I)
  let d1 : Bool := ((o.length : Int) != ((O n).length : Int))
  let d2 : Bool := ((i.length : Int) != ((I n).length : Int))
  have sI := srt_sub_len (hp.inv.si n hk) (srt_blkIn (srt_U (bk c n) I)) (hp.inv.ii n hk)
  have sO := srt_sub_len (hp.inv.so n hk) (srt_U (bk c n) I) (hp.inv.oo n hk)
  have tI := tot_fup I hk i
  have tO1 := tot_fup O hk o
  have hp' : Pass c I0 _ _ (m || d1 || d2) n := hp.next h hk (m' := m || d1 || d2) fun hf => by
   simp only [Bool.or_eq_false_iff] at hf
   refine ⟨hf.1.1, (sI.2 ?_).symm⟩
   have := hf.2
   have : (i.length : Int) = ((I n).length : Int) := by simpa [d2] using this
   show (I n).length = i.length
   omega
  have hm' : (m || d1 || d2) = true → tot c.Blocks.length I0 + tO < tot c.Blocks.length (fup I n i) + tot c.Blocks.length (fup O n o) := fun hf => by
   have sI1 : (I n).length ≤ i.length := sI.1
   have sO1 : (O n).length ≤ o.length := sO.1
   have hle := hp.le
   simp only [Bool.or_eq_true] at hf
   rcases hf with (hf | hf) | hf
   ·have := hm hf; omega
   ·have : (o.length : Int) ≠ ((O n).length : Int) := by simpa [d1] using hf
    omega
   ·have : (i.length : Int) ≠ ((I n).length : Int) := by simpa [d2] using hf
    omega
  have sO1 : (O n).length ≤ o.length := sO.1
  have hto' : tO ≤ tot c.Blocks.length (fup O n o) := by omega
  obtain ⟨m', ins', outs', I', O', e5, h5⟩ := ih (m || d1 || d2) (ins.set n i) (outs.set n o) _ _ (by omega) hp' hm' hto' (hI.set hk i) (hO.set hk o)
  refine ⟨m', ins', outs', I', O', Ev.step (fun K k => rfl) (Ev.t (by simp) ?_), h5⟩
  simp only [hidx]
  refine Ev.bindO (bk_idx hk) (Ev.bind (ev_rsucc _) (Ev.bind (Ev.loop e1) (Ev.bindO (bk_idx hk) (Ev.bind (ev_livePoints h (h.len hk) (h.iv hk) (h.e hk) (hp.inv.rsU h hk)) (Ev.bindO (x := i) (idx_eq (i := 0) ?_) (Ev.bind (x := m || d1) ?_ (Ev.bind (x := m || d1 || d2) ?_ (Ev.bindO (idx_eq (hI.r n hk)) (Ev.bindO (idx_eq (hO.r n hk)) ?_)))))))))
  ·unfold lps
   rw [List.getElem?_map, List.getElem?_range (by omega)]; rfl
  ·cases m with
   | true => exact Ev.t rfl (Ev.some _)
   | false => exact Ev.f rfl (Ev.bindO (idx_eq (hO.r n hk)) (Ev.some _))
  ·generalize (m || d1) = q
   cases q with
   | true => exact Ev.t rfl (Ev.some _)
   | false => exact Ev.f rfl (Ev.bindO (idx_eq (hI.r n hk)) (Ev.some _))
  ·rw [hw]; exact e5
theorem rb_l1 {c : VFunc} (h : Vd c) : ∀ (B : Nat) (ins outs : List (List Int)) (I O : Nat → List Int), 6000000 ≤ tot c.Blocks.length I + tot c.Blocks.length O + B → Inv c I O → RepL c.Blocks.length ins I → RepL c.Blocks.length outs O →
  Ev (fun K k => ref32_LiveBlocks_l1 K c k (true, outs, ins)) ((List.range c.Blocks.length).map (LO c), (List.range c.Blocks.length).map (LI c)) := by
 have hb1 := h.h.b1
 have fin : ∀ (ins outs : List (List Int)) (I O : Nat → List Int), (∀ k, k < c.Blocks.length → I k = LI c k) ∧ (∀ k, k < c.Blocks.length → O k = LO c k) → RepL c.Blocks.length ins I → RepL c.Blocks.length outs O → (outs, ins) = ((List.range c.Blocks.length).map (LO c), (List.range c.Blocks.length).map (LI c)) := by
  intro ins outs I O hd r1 r2
  rw [RepL.eq (I := LI c) ⟨r1.l, fun k hk => by rw [← hd.1 k hk]; exact r1.r k hk⟩, RepL.eq (I := LO c) ⟨r2.l, fun k hk => by rw [← hd.2 k hk]; exact r2.r k hk⟩]
 have bound : ∀ {I O : Nat → List Int}, Inv c I O → tot c.Blocks.length I + tot c.Blocks.length O ≤ 6000000 := fun {I O} hi => by
  have h1 := tot_bound h hi
  have h2 := tot_le (n := c.Blocks.length) (m := 3000) (I := O) fun k hk => by have := hi.lenO h hk; have := h.h.r1; omega
  omega
 have hw : w64 ((c.Blocks.length : Int) - 1) = (c.Blocks.length : Int) - 1 := w64_id (by omega) (by omega)
 intro B
 induction B with
 | zero =>
  intro ins outs I O hB hi hI hO
  obtain ⟨m', ins', outs', I', O', e, hp, hm, r1, r2⟩ := rb_l2 h (I0 := I) (tO := tot c.Blocks.length O) c.Blocks.length false ins outs I O (Nat.le_refl _) ⟨hi, Nat.le_refl _, fun _ => ⟨fun _ _ => rfl, fun k h1 h2 => by omega⟩⟩ (fun h => by cases h) (Nat.le_refl _) hI hO
  cases hmm : m' with
  | true => have := hm hmm; have := bound hp.inv; omega
  | false =>
   subst hmm
   refine Ev.step (fun K k => rfl) (Ev.t rfl ?_)
   simp only [hw]
   exact Ev.bind (Ev.loop e) (Ev.step (fun K k => rfl) (Ev.f rfl ((Ev.some _).cast (fin _ _ _ _ (hp.done h) r1 r2))))
 | succ B ih =>
  intro ins outs I O hB hi hI hO
  obtain ⟨m', ins', outs', I', O', e, hp, hm, r1, r2⟩ := rb_l2 h (I0 := I) (tO := tot c.Blocks.length O) c.Blocks.length false ins outs I O (Nat.le_refl _) ⟨hi, Nat.le_refl _, fun _ => ⟨fun _ _ => rfl, fun k h1 h2 => by omega⟩⟩ (fun h => by cases h) (Nat.le_refl _) hI hO
  cases hmm : m' with
  | true =>
   have e2 := ih ins' outs' I' O' (by have := hm hmm; omega) hp.inv r1 r2
   subst hmm
   refine Ev.step (fun K k => rfl) (Ev.t rfl ?_)
   simp only [hw]
   exact Ev.bind (Ev.loop e) e2
  | false =>
   subst hmm
   refine Ev.step (fun K k => rfl) (Ev.t rfl ?_)
   simp only [hw]
   exact Ev.bind (Ev.loop e) (Ev.step (fun K k => rfl) (Ev.f rfl ((Ev.some _).cast (fin _ _ _ _ (hp.done h) r1 r2))))
noncomputable def LIs (c : VFunc) : List (List Int) := (List.range c.Blocks.length).map (LI c)
noncomputable def LOs (c : VFunc) : List (List Int) := (List.range c.Blocks.length).map (LO c)
theorem LOs_get {c : VFunc} {k : Nat} (h : k < c.Blocks.length) : (LOs c)[k]? = some (LO c k) := by unfold LOs; rw [List.getElem?_map, List.getElem?_range h]; rfl
theorem LIs_len (c : VFunc) : (LIs c).length = c.Blocks.length := by simp [LIs]
theorem LOs_len (c : VFunc) : (LOs c).length = c.Blocks.length := by simp [LOs]
theorem ev_rblocks {c : VFunc} (h : Vd c) : Ev (fun K _ => ref32_LiveBlocks K c) (LIs c, LOs c) := by
 have hb1 := h.h.b1
 have hmk : mk 24 (c.Blocks.length : Int) ([] : List Int) = some (List.replicate c.Blocks.length []) := mk_eq (by omega) (by omega)
 have hrep : RepL c.Blocks.length (List.replicate c.Blocks.length ([] : List Int)) (fun _ => []) := ⟨by simp, fun k hk => by rw [List.getElem?_replicate, if_pos hk]⟩
 have e := rb_l1 h 6000000 _ _ _ _ (by omega) (Inv.start c) hrep hrep
 unfold ref32_LiveBlocks
 refine Ev.bind (ev_rvalid h.sm) (Ev.f (by rw [h.v]; rfl) (Ev.bindO hmk (Ev.bindO hmk (Ev.bind (Ev.loop e) ((Ev.some _).cast rfl)))))
theorem ev_rblocks0 {c : VFunc} (h : SmF c) (hv : validB c = false) : Ev (fun K _ => ref32_LiveBlocks K c) ([], []) := by
 unfold ref32_LiveBlocks
 exact Ev.bind (ev_rvalid h) (Ev.t (by rw [hv]; rfl) (Ev.some _))
noncomputable def LPs (c : VFunc) (k : Nat) : List (List Int) := lps (bk c k) (LO c k)
theorem ev_rpoints {c : VFunc} (h : Vd c) {k : Nat} (hk : k < c.Blocks.length) : Ev (fun K _ => ref32_LivePoints K c (k : Int)) (LPs c k) := by
 unfold ref32_LivePoints
 refine Ev.bind (ev_rvalid h.sm) (Ev.f ?_ (Ev.bind (ev_rblocks h) (Ev.bindO (bk_idx hk) (Ev.bindO (idx_eq (LOs_get hk)) (Ev.bind (ev_livePoints h (h.len hk) (h.iv hk) (h.e hk) (RS.LO h k)) (Ev.some _))))))
 rw [h.v]; simp; omega
theorem ev_rpoints0 {c : VFunc} (h : SmF c) {k : Int} (hk : ¬ (validB c = true ∧ 0 ≤ k ∧ k < (c.Blocks.length : Int))) : Ev (fun K _ => ref32_LivePoints K c k) [] := by
 unfold ref32_LivePoints
 refine Ev.bind (ev_rvalid h) (Ev.t ?_ (Ev.some _))
 cases hv : validB c with
 | false => rfl
 | true => simp; simp [hv] at hk; omega
theorem ev_pblocks {c : VFunc} (h : Vd c) : Ev (fun K _ => liveness_Blocks K c) (LIs c, LOs c) := by
 have hb1 := h.h.b1
 have hnw := nw_le h.h.r1
 obtain ⟨ins, outs, e, r1, r2⟩ := ev_analyze h
 have loop : ∀ (n j : Nat), j + n = c.Blocks.length → Ev (fun K k => liveness_Blocks_l1 K (ins, outs) k ((j : Int), (List.range j).map (LO c), (List.range j).map (LI c))) (LOs c, LIs c) := by
  intro n
  induction n with
  | zero =>
   intro j hj
   have : j = c.Blocks.length := by omega
   subst this
   refine Ev.step (fun K k => rfl) (Ev.f ?_ (Ev.some _))
   simp [r1.l]
  | succ n ih =>
   intro j hj
   have hk : j < c.Blocks.length := by omega
   have hw : w64 ((j : Int) + 1) = ((j + 1 : Nat) : Int) := by rw [w64_id (by omega) (by omega)]; simp
   obtain ⟨wi, hi1, hi2⟩ := r1.r j hk
   obtain ⟨wo, ho1, ho2⟩ := r2.r j hk
   refine Ev.step (fun K k => rfl) (Ev.t (by simp [r1.l]; omega) (Ev.bindO (idx_eq hi1) (Ev.bind (ev_list hnw hi2) (Ev.bindO (app_eq (by simp; omega) (by simp; omega)) (Ev.bindO (idx_eq ho1) (Ev.bind (ev_list hnw ho2) (Ev.bindO (app_eq (by simp; omega) (by simp; omega)) ?_)))))))
   simp only [hw]
   have := ih (j + 1) (by omega)
   simpa only [List.range_succ, List.map_append, List.map_cons, List.map_nil] using this
 unfold liveness_Blocks
 exact Ev.bind (ev_vvalid h.sm) (Ev.f (by rw [h.v]; rfl) (Ev.bind e (Ev.bind (Ev.loop (loop c.Blocks.length 0 (by omega))) (Ev.some _))))
theorem ev_pblocks0 {c : VFunc} (h : SmF c) (hv : validB c = false) : Ev (fun K _ => liveness_Blocks K c) ([], []) := by
 unfold liveness_Blocks
 exact Ev.bind (ev_vvalid h) (Ev.t (by rw [hv]; rfl) (Ev.some _))
theorem ev_ppoints {c : VFunc} (h : Vd c) {k : Nat} (hk : k < c.Blocks.length) : Ev (fun K _ => liveness_Points K c (k : Int)) (LPs c k) := by
 have hb1 := h.h.b1
 have hnw := nw_le h.h.r1
 have hlen := h.len hk
 obtain ⟨ins, outs, e, r1, r2⟩ := ev_analyze h
 obtain ⟨wo, ho1, ho2⟩ := r2.r k hk
 obtain ⟨w1, e1, q1⟩ := addTerm_ok h (h.e hk) ho2
 have loop : ∀ (j : Nat) (ws : List Int), j ≤ (bk c k).Instrs.length → Rep (nw c.Regs) ws (lp (bk c k) (LO c k) j) → ∃ ws', Ev (fun K n => liveness_Points_l1 K (bk c k) n ((j : Int) - 1, fillD (bk c k).Instrs.length (lp (bk c k) (LO c k)) j, ws)) (LPs c k, ws') := by
  intro j
  induction j with
  | zero =>
   intro ws _ _
   refine ⟨ws, Ev.step (fun K k => rfl) (Ev.f (by simp) ((Ev.some _).cast ?_))⟩
   rw [fillD_zero]; rfl
  | succ j ih =>
   intro ws hj hr
   have hlt : j < (bk c k).Instrs.length := hj
   have hidx : ((j + 1 : Nat) : Int) - 1 = (j : Int) := by omega
   have hw2 : w64 ((j : Int) - 1) = (j : Int) - 1 := w64_id (by omega) (by omega)
   have hgv : (bk c k).Instrs[j]? = some (bk c k).Instrs[j] := List.getElem?_eq_getElem hlt
   obtain ⟨w2, e2, q2⟩ := transfer_ok h (h.i hk (List.mem_of_getElem? hgv)) hr
   rw [← lp_step hgv] at q2
   obtain ⟨w3, e3⟩ := ih w2 (by omega) q2
   refine ⟨w3, Ev.step (fun K k => rfl) (Ev.t (by simp) ?_)⟩
   simp only [hidx, hw2]
   refine Ev.bindO (idx_eq hgv) (Ev.bind e2 (Ev.bind (ev_list hnw q2) (Ev.bindO (idx_get (i := j) (by rw [fillD_len _ (by omega)]; omega)) ?_)))
   simp only [Int.toNat_natCast, fillD_set _ (show j ≤ (bk c k).Instrs.length by omega)]
   exact e3
 have hw : w64 (((bk c k).Instrs.length : Int) + 1) = (((bk c k).Instrs.length + 1 : Nat) : Int) := by rw [w64_id (by omega) (by omega)]; simp
 have hw2 : w64 (((bk c k).Instrs.length : Int) - 1) = ((bk c k).Instrs.length : Int) - 1 := w64_id (by omega) (by omega)
 obtain ⟨w3, e3⟩ := loop _ w1 (Nat.le_refl _) (by rw [lp_last]; exact q1)
 unfold liveness_Points
 refine Ev.bind (ev_vvalid h.sm) (Ev.f ?_ (Ev.bind e (Ev.bindO (bk_idx hk) (Ev.bindO (idx_eq ho1) (Ev.bindO (app_nil (by rw [ho2.w.1]; omega) (by rw [ho2.w.1]; omega)) (Ev.bindO e1 ?_))))))
 ·rw [h.v]; simp; omega
 ·rw [hw, hw2]
  refine Ev.bindO (mk_eq (by omega) (by omega)) (Ev.bind (ev_list hnw q1) (Ev.bindO (idx_get (i := (bk c k).Instrs.length) (by simp)) ?_))
  rw [Int.toNat_natCast, ← lp_last, fillD_top]
  exact Ev.bind (Ev.loop e3) (Ev.some _)
theorem ev_ppoints0 {c : VFunc} (h : SmF c) {k : Int} (hk : ¬ (validB c = true ∧ 0 ≤ k ∧ k < (c.Blocks.length : Int))) : Ev (fun K _ => liveness_Points K c k) [] := by
 unfold liveness_Points
 refine Ev.bind (ev_vvalid h) (Ev.t ?_ (Ev.some _))
 cases hv : validB c with
 | false => rfl
 | true => simp; simp [hv] at hk; omega
end Go.Proofs.YtocfnpnnbmicmaaDoor.Tc
end
section
set_option linter.unusedVariables false
set_option linter.unusedSimpArgs false
set_option maxRecDepth 20000
namespace Go.Proofs.YtocfnpnnbmicmaaDoor.Tc
open Go
theorem pick_ok (a : Int) {m : Int} (h0 : 0 < m) (h1 : m ≤ 1000000000000) : ∃ r, keep_Pick a m = some r ∧ 0 ≤ r ∧ r < m := by
 have h2 := Int.tmod_lt_of_pos a h0
 have h3 : -m < Int.tmod a m := by
  have := Int.tmod_lt_of_pos (-a) h0
  rw [Int.neg_tmod] at this; omega
 unfold keep_Pick
 have hg : (m != 0) = true := by simp; omega
 rw [hg]
 by_cases h : Int.tmod a m < 0
 ·refine ⟨Int.tmod a m + m, ?_, by omega, by omega⟩
  simp only [guardO, cnd, h, decide_true, Option.bind_some]
  rw [w64_id (by omega) (by omega)]
 ·exact ⟨Int.tmod a m, by simp only [guardO, cnd, h, decide_false, Option.bind_some], by omega, h2⟩
theorem next_ok (d : Fullingkeep2Digits) {m : Int} (h0 : 0 < m) (h1 : m ≤ 1000000000000) : ∃ r d', keep2_Digits_Next d m = some (r, d') ∧ 0 ≤ r ∧ r < m := by
 obtain ⟨r, e, h2, h3⟩ := pick_ok d.N h0 h1
 refine ⟨r, ⟨w64 (Int.tdiv (w64 (d.N - r)) m)⟩, ?_, h2, h3⟩
 unfold keep2_Digits_Next
 have hg : (m != 0) = true := by simp; omega
 rw [e, Option.bind_some, hg]; rfl
theorem word_ok (a b : Int) : ∃ r, keep_Word a b = some r := by
 obtain ⟨r1, e1, h1, h2⟩ := pick_ok a (m := 24) (by omega) (by omega)
 unfold keep_Word
 rw [e1, Option.bind_some]
 by_cases h : r1 < 10
 ·simp only [h, decide_true, cnd]
  have : (r1.toNat) < ([0, 1, (-1), 2, (-9223372036854775808), 9223372036854775807, 4294967296, (-2147483648), 63, 64] : List Int).length := by simp; omega
  have e := idx_get this
  rw [show ((r1.toNat : Nat) : Int) = r1 by omega] at e
  rw [e]; exact ⟨_, rfl⟩
 ·simp only [h, decide_false, cnd]
  by_cases h3 : r1 < 22
  ·simp only [h3, decide_true]
   obtain ⟨r2, e2, _, _⟩ := pick_ok (w64 (Int.tdiv a 24)) (m := 17) (by omega) (by omega)
   rw [e2]; exact ⟨_, rfl⟩
  ·simp only [h3, decide_false]; exact ⟨_, rfl⟩
def opsV : List Int := [3, 6, 9, 10, 11, 12, 13, 33, 34, 35, 15, 16, 17, 18, 19, 20, 21, 22, 23, 24, 25, 26, 27, 28, 29, 30, 31, 32]
theorem inf_all : opsV.all (fun op => alw op && decide ((ref29_Info op).map (fun x => x.1.Form) = some (fm op)) && (op != 38)) = true := by kernel_rfl
theorem inf_eq {op : Int} (h : op ∈ opsV) : alw op = true ∧ (∃ x, ref29_Info op = some x ∧ x.1.Form = fm op) ∧ op ≠ 38 := by
 have := List.all_eq_true.1 inf_all op h
 simp only [Bool.and_eq_true, decide_eq_true_eq, bne_iff_ne] at this
 refine ⟨this.1.1, ?_, this.2⟩
 have h2 := this.1.2
 cases hx : ref29_Info op with
 | none => rw [hx] at h2; cases h2
 | some x => rw [hx] at h2; exact ⟨x, rfl, Option.some.inj h2⟩
theorem ev_vinstr_l1 {c : VFunc} (h0 : 0 < c.Regs) (h1 : c.Regs ≤ 3000) : ∀ (n : Nat) (d : Int) (ag : List Int), ag.length + n ≤ 2 → (∀ x, x ∈ ag → regB c x = true) →
  ∃ d' ag', Ev (fun K k => keep2_VInstr_l1 K c k ((n : Int), d, ag)) (d', ag') ∧ ag'.length ≤ 2 ∧ ∀ x, x ∈ ag' → regB c x = true := by
 intro n
 induction n with
 | zero => intro d ag h2 h3; exact ⟨d, ag, Ev.step (fun K k => rfl) (Ev.f (by simp) (Ev.some _)), by omega, h3⟩
 | succ n ih =>
  intro d ag h2 h3
  obtain ⟨r, d', e, h4, h5⟩ := next_ok ⟨d⟩ (m := c.Regs) h0 (by omega)
  obtain ⟨d2, as2, e2, h6⟩ := ih d'.N (ag ++ [r]) (by simp; omega) fun x hx => by
   rcases List.mem_append.1 hx with q | q
   ·exact h3 x q
   ·rw [List.mem_singleton.1 q]; exact regB_iff.2 ⟨h4, h5⟩
  refine ⟨d2, as2, Ev.step (fun K k => rfl) (Ev.t (by simp) (Ev.bindO e (Ev.bindO (app_eq (by simp; omega) (by simp; omega)) ?_))), h6⟩
  have hw : w64 (((n + 1 : Nat) : Int) - 1) = (n : Int) := by rw [w64_id (by omega) (by omega)]; omega
  simp only [hw]; exact e2
theorem ev_vinstr {c : VFunc} (h0 : 0 < c.Regs) (h1 : c.Regs ≤ 3000) (n : Int) : ∃ v, Ev (fun K _ => keep2_VInstr K n c) v ∧ insB c v = true := by
 unfold keep2_VInstr
 obtain ⟨r4, d4, e4, h4, h5⟩ := next_ok ⟨n⟩ (m := 18) (by omega) (by omega)
 obtain ⟨r11, d11, e11, h11, h12⟩ := next_ok d4 (m := 24) (by omega) (by omega)
 -- the operation
 have hop : ∃ op, op ∈ opsV ∧ (Option.bind (keep2_Digits_Next d4 24) (fun r11 => (cnd (decide (r11.1 < ((([3, 6, 9, 10, 11, 12, 13, 33, 34, 35, 10, 9] : List Int)).length : Int))) (Option.bind (idx ([3, 6, 9, 10, 11, 12, 13, 33, 34, 35, 10, 9] : List Int) r11.1) (fun y14 => (some (y14, r11.2.N)))) (some ((w64 (15 + r4)), r11.2.N))))) = some (op, d11.N) := by
  rw [e11, Option.bind_some]
  by_cases hr : r11 < 12
  ·have hlt : r11.toNat < ([3, 6, 9, 10, 11, 12, 13, 33, 34, 35, 10, 9] : List Int).length := by simp; omega
   have e := idx_get hlt
   rw [show ((r11.toNat : Nat) : Int) = r11 by omega] at e
   refine ⟨([3, 6, 9, 10, 11, 12, 13, 33, 34, 35, 10, 9] : List Int)[r11.toNat], ?_, ?_⟩
   ·have hm : ∀ x, x ∈ ([3, 6, 9, 10, 11, 12, 13, 33, 34, 35, 10, 9] : List Int) → x ∈ opsV := by decide
    exact hm _ (List.getElem_mem hlt)
   ·have : decide (r11 < ((([3, 6, 9, 10, 11, 12, 13, 33, 34, 35, 10, 9] : List Int)).length : Int)) = true := by simp; omega
    simp only [this, cnd, e, Option.bind_some]
  ·refine ⟨15 + r4, ?_, ?_⟩
   ·simp only [opsV, List.mem_cons, List.not_mem_nil, or_false]; omega
   ·have : decide (r11 < ((([3, 6, 9, 10, 11, 12, 13, 33, 34, 35, 10, 9] : List Int)).length : Int)) = false := by simp; omega
    simp only [this, cnd, Option.bind_some]
    rw [w64_id (by omega) (by omega)]
 obtain ⟨op, hmem, hop⟩ := hop
 obtain ⟨ha, ⟨x, ex, hx⟩, h38⟩ := inf_eq hmem
 obtain ⟨f1, f2, f3⟩ := form_eq ha
 simp only [e4, Option.bind_some, hop, ex]
 -- A, B, C
 have reg : ∀ (b : Bool) (d : Int), ∃ r d', cnd b (Option.bind (keep2_Digits_Next (⟨d⟩ : Fullingkeep2Digits) c.Regs) (fun r26 => (some (r26.1, r26.2.N)))) (some ((0 : Int), d)) = some (r, d') ∧ (if b then regB c r else r == 0) = true := by
  intro b d
  cases b with
  | false => exact ⟨0, d, rfl, rfl⟩
  | true =>
   obtain ⟨r, d', e, h4, h5⟩ := next_ok ⟨d⟩ (m := c.Regs) h0 (by omega)
   exact ⟨r, d'.N, by rw [e]; rfl, regB_iff.2 ⟨h4, h5⟩⟩
 obtain ⟨A, dA, eA, hA⟩ := reg (x.1.Form != 1) d11.N
 obtain ⟨B, dB, eB, hB⟩ := reg (((x.1.Form == 3) || (x.1.Form == 4)) || (x.1.Form == 7)) dA
 obtain ⟨C, dC, eC, hC⟩ := reg (x.1.Form == 4) dB
 simp only [eA, eB, eC, Option.bind_some]
 rw [hx, f2] at hA
 have hB : (if fBb (fm op) then regB c B else B == 0) = true := by rw [hx] at hB; exact hB
 have hC : (if fC (fm op) then regB c C else C == 0) = true := by rw [hx] at hC; exact hC
 -- the rest
 have fin : ∀ (ag : List Int) (N : Int), ag.length ≤ 2 → (∀ x, x ∈ ag → regB c x = true) → (op ≠ 6 → ag = []) → ((fN (fm op)) = false → N = 0) → numB c ⟨op, A, B, C, N⟩ = true → insB c ⟨⟨op, A, B, C, N⟩, ag⟩ = true := by
  intro ag N g1 g2 g3 g4 g5
  unfold insB
  have c1 : (((!(alw op)) || (decide ((ag.length : Int) > 6))) || ((op != 6) && (decide ((ag.length : Int) > 0)))) = false := by
   rw [ha]
   by_cases h6 : op = 6
   ·simp [h6]; omega
   ·rw [g3 h6]; simp
  have c2 : ag.all (regB c) = true := List.all_eq_true.2 g2
  have gen : ∀ a b e : Bool, (if a then b else e) = true → (a && !b) = false ∧ ((!a) && !e) = false := by decide
  have A1 := gen _ _ _ hA
  have B1 := gen _ _ _ hB
  have C1 := gen _ _ _ hC
  have N1 : ((!(fN (fm op))) && (N != 0)) = false := by
   cases hf : fN (fm op) with
   | true => rfl
   | false => rw [g4 hf]; rfl
  simp only [c1, c2, A1.1, B1.1, C1.1, N1]
  have e1 : ((!(fA (fm op))) && (A != 0)) = false := A1.2
  have e2 : ((!(fBb (fm op))) && (B != 0)) = false := B1.2
  have e3 : ((!(fC (fm op))) && (C != 0)) = false := C1.2
  simp only [e1, e2, e3]
  simpa using g5
 have nB : ∀ N, op ≠ 33 → op ≠ 6 → op ≠ 34 → op ≠ 35 → numB c ⟨op, A, B, C, N⟩ = true := fun N q1 q2 q3 q4 => by
  unfold numB
  simp [q1, q2, q3, q4, h38]
 by_cases h13 : op = 13
 ·obtain ⟨r, d, e, _, _⟩ := next_ok ⟨dC⟩ (m := 400) (by omega) (by omega)
  obtain ⟨w, ew⟩ := word_ok r n
  refine ⟨⟨⟨op, A, B, C, w⟩, []⟩, Ev.bind (x := (([] : List Int), w, d.N)) (Ev.t (by simp [h13]) (Ev.bindO e (Ev.bindO ew (Ev.some _)))) (Ev.some _), fin [] w (by simp) (by simp) (fun _ => rfl) (fun hf => ?_) (nB w (by omega) (by omega) (by omega) (by omega))⟩
  rw [f3, h13] at hf; cases hf
 by_cases h33 : op = 33
 ·obtain ⟨r, d, e, q1, q2⟩ := next_ok ⟨dC⟩ (m := 9) (by omega) (by omega)
  have hw : w64 (r - 4) = r - 4 := w64_id (by omega) (by omega)
  refine ⟨⟨⟨op, A, B, C, r - 4⟩, []⟩, Ev.bind (x := (([] : List Int), r - 4, d.N)) (Ev.f (by simp [h13]) (Ev.t (by simp [h33]) (Ev.bindO e ((Ev.some _).cast (by simp only [hw]))))) (Ev.some _), fin [] _ (by simp) (by simp) (fun _ => rfl) (fun hf => ?_) ?_⟩
  ·rw [f3, h33] at hf; cases hf
  ·subst h33; unfold numB; simp; omega
 by_cases h34 : op = 34 ∨ op = 35
 ·obtain ⟨r, d, e, q1, q2⟩ := next_ok ⟨dC⟩ (m := 2) (by omega) (by omega)
  have hb : Ev (fun K k => cnd (op == 34) (some (op == 34)) (some (op == 35))) true := by
   rcases h34 with rfl | rfl
   ·exact Ev.t rfl ((Ev.some _).cast rfl)
   ·exact Ev.f rfl ((Ev.some _).cast rfl)
  refine ⟨⟨⟨op, A, B, C, r⟩, []⟩, Ev.bind (x := (([] : List Int), r, d.N)) (Ev.f (by simp [h13]) (Ev.f (by simp [h33]) (Ev.bind hb (Ev.t rfl (Ev.bindO e (Ev.some _)))))) (Ev.some _), fin [] _ (by simp) (by simp) (fun _ => rfl) (fun hf => ?_) ?_⟩
  ·rw [f3] at hf; rcases h34 with rfl | rfl <;> cases hf
  ·rcases h34 with rfl | rfl
   ·unfold numB; simp; omega
   ·unfold numB; simp; omega
 have h34' : op ≠ 34 ∧ op ≠ 35 := ⟨fun e => h34 (.inl e), fun e => h34 (.inr e)⟩
 have hb : Ev (fun K k => cnd (op == 34) (some (op == 34)) (some (op == 35))) false := Ev.f (by simp [h34'.1]) ((Ev.some _).cast (by simp [h34'.2]))
 by_cases h6 : op = 6
 ·obtain ⟨r, d, e, q1, q2⟩ := next_ok ⟨dC⟩ (m := 2) (by omega) (by omega)
  obtain ⟨d2, ag, e2, g1, g2⟩ := ev_vinstr_l1 h0 h1 (2 - r).toNat d.N [] (by simp; omega) (by simp)
  have hw : w64 (2 - r) = ((2 - r).toNat : Int) := by rw [w64_id (by omega) (by omega)]; omega
  refine ⟨⟨⟨op, A, B, C, r⟩, ag⟩, Ev.bind (x := (ag, r, d2)) (Ev.f (by simp [h13]) (Ev.f (by simp [h33]) (Ev.bind hb (Ev.f rfl (Ev.t (by simp [h6]) (Ev.bindO e ?_)))))) (Ev.some _), fin ag r g1 g2 (fun hc => absurd h6 hc) (fun hf => ?_) ?_⟩
  ·simp only [hw]
   exact Ev.bind (Ev.loop e2) (Ev.some _)
  ·rw [f3, h6] at hf; cases hf
  ·subst h6; unfold numB; simp; omega
 ·refine ⟨⟨⟨op, A, B, C, 0⟩, []⟩, Ev.bind (x := (([] : List Int), (0 : Int), dC)) (Ev.f (by simp [h13]) (Ev.f (by simp [h33]) (Ev.bind hb (Ev.f rfl (Ev.f (by simp [h6]) (Ev.some _)))))) (Ev.some _), fin [] 0 (by simp) (by simp) (fun _ => rfl) (fun _ => rfl) (nB 0 h33 h6 h34'.1 h34'.2)⟩
def iv0 (p : Int) (r : Nat) : VInstr := ⟨⟨if (r : Int) < p then 38 else 13, r, 0, 0, r⟩, []⟩
def firstB (p : Int) (R : Nat) : Block := ⟨(List.range R).map (iv0 p), 1, 0, 1, 0⟩
structure BlkV (p R : Int) (M : Nat) (b : Block) : Prop where
 i : ∀ v, v ∈ b.Instrs → insB ⟨p, R, []⟩ v = true
 n : b.Instrs.length ≤ 5
 e : (b.End = 1 ∧ 1 ≤ b.Target ∧ b.Target ≤ M ∧ b.Reg = 0 ∧ b.Else = 0) ∨ (b.End = 2 ∧ 1 ≤ b.Target ∧ b.Target ≤ M ∧ 1 ≤ b.Else ∧ b.Else ≤ M ∧ 0 ≤ b.Reg ∧ b.Reg < R) ∨ (b.End = 3 ∧ 0 ≤ b.Reg ∧ b.Reg < R ∧ b.Target = 0 ∧ b.Else = 0) ∨ (b.End = 4 ∧ 1 ≤ b.Target ∧ b.Target ≤ 9 ∧ b.Reg = 0 ∧ b.Else = 0)
structure VF (p : Int) (c : VFunc) : Prop where
 p0 : 0 ≤ p
 p2 : p ≤ 2
 hp : c.Params = p
 hr : c.Regs = 9 + p
 hb : ∃ (M : Nat) (bs : List Block), c.Blocks = firstB p (9 + p.toNat) :: bs ∧ bs.length = M ∧ 1 ≤ M ∧ M ≤ 6 ∧ ∀ b, b ∈ bs → BlkV p (9 + p) M b
theorem ev_vfunc_l1 {p : Int} (h0 : 0 ≤ p) (h2 : p ≤ 2) : Ev (fun K k => keep2_VFunc_l1 K p k (0, 9)) (9 + p) := by
 have h : p = 0 ∨ p = 1 ∨ p = 2 := by omega
 rcases h with rfl | rfl | rfl
 ·exact Ev.step (fun K k => rfl) (Ev.f rfl (Ev.some _))
 ·exact Ev.step (fun K k => rfl) (Ev.t rfl (Ev.step (fun K k => rfl) (Ev.f rfl (Ev.some _))))
 ·exact Ev.step (fun K k => rfl) (Ev.t rfl (Ev.step (fun K k => rfl) (Ev.t rfl (Ev.step (fun K k => rfl) (Ev.f rfl (Ev.some _))))))
theorem ev_vfunc_l2 {p : Int} (h0 : 0 ≤ p) (h2 : p ≤ 2) : ∀ (n j : Nat), j + n = 9 + p.toNat → Ev (fun K k => keep2_VFunc_l2 K p (9 + p) k ((j : Int), (List.range j).map (iv0 p))) (firstB p (9 + p.toNat)).Instrs := by
 intro n
 induction n with
 | zero =>
  intro j hj
  refine Ev.step (fun K k => rfl) (Ev.f (by simp; omega) ((Ev.some _).cast ?_))
  rw [show 9 + p.toNat = j by omega]; rfl
 | succ n ih =>
  intro j hj
  have hw : w64 ((j : Int) + 1) = ((j + 1 : Nat) : Int) := by rw [w64_id (by omega) (by omega)]; simp
  refine Ev.step (fun K k => rfl) (Ev.t (by simp; omega) (Ev.bind (x := if (j : Int) < p then 38 else 13) ?_ (Ev.bindO (app_eq (by simp; omega) (by simp; omega)) ?_)))
  ·by_cases h : (j : Int) < p
   ·rw [if_pos h]; exact Ev.t (by simpa using h) (Ev.some _)
   ·rw [if_neg h]; exact Ev.f (by simpa using h) (Ev.some _)
  ·simp only [hw]
   have := ih (j + 1) (by omega)
   rw [List.range_succ, List.map_append] at this
   exact this
theorem ev_vfunc_l4 {l : List Int} (hl : l.length ≤ 36) {p : Int} (h0 : 0 ≤ p) (h2 : p ≤ 2) {s : Int × List Block} {b : Nat} (hs : s.1 = (b : Int)) (hb : b ≤ 6) : ∀ (n j : Nat) (is : List VInstr), j + n = 5 → is.length = j → (∀ v, v ∈ is → insB ⟨p, 9 + p, []⟩ v = true) →
  ∃ is', Ev (fun K k => keep2_VFunc_l4 K l p (9 + p) s k ((j : Int), is)) is' ∧ is'.length ≤ 5 ∧ ∀ v, v ∈ is' → insB ⟨p, 9 + p, []⟩ v = true := by
 intro n
 induction n with
 | zero =>
  intro j is hj hi hv
  refine ⟨is, Ev.step (fun K k => rfl) (Ev.f ?_ (Ev.some _)), by omega, hv⟩
  have : decide ((j : Int) < 5) = false := by simp; omega
  simp only [this, Bool.false_and]
 | succ n ih =>
  intro j is hj hi hv
  have hw : w64 ((j : Int) + 1) = ((j + 1 : Nat) : Int) := by rw [w64_id (by omega) (by omega)]; simp
  have hw2 : w64 (w64 (6 * s.1) + (j : Int)) = ((6 * b + j : Nat) : Int) := by
   rw [hs, w64_id (n := 6 * (b : Int)) (by omega) (by omega), w64_id (by omega) (by omega)]; simp
  have h5 : decide ((j : Int) < 5) = true := by simp; omega
  rcases Nat.lt_or_ge (6 * b + j) l.length with q | q
  ·obtain ⟨v, ev, hvv⟩ := ev_vinstr (c := ⟨p, 9 + p, []⟩) (by show 0 < 9 + p; omega) (by show 9 + p ≤ 3000; omega) l[6 * b + j]
   obtain ⟨is', e, h6⟩ := ih (j + 1) (is ++ [v]) (by omega) (by simp [hi]) fun w hw => by
    rcases List.mem_append.1 hw with q | q
    ·exact hv w q
    ·rw [List.mem_singleton.1 q]; exact hvv
   refine ⟨is', Ev.step (fun K k => rfl) (Ev.t ?_ ?_), h6⟩
   ·simp only [h5, hw2, Bool.true_and, decide_eq_true_eq]; omega
   ·simp only [hw2, hw]
    exact Ev.bindO (idx_get q) (Ev.bind ev (Ev.bindO (app_eq (by simp; omega) (by simp; omega)) e))
  ·refine ⟨is, Ev.step (fun K k => rfl) (Ev.f ?_ (Ev.some _)), by omega, hv⟩
   simp only [h5, hw2, Bool.true_and, decide_eq_false_iff_not]; omega
theorem ev_vfunc_l3 {l : List Int} (hl : l.length ≤ 36) {p : Int} (h0 : 0 ≤ p) (h2 : p ≤ 2) {M : Nat} (hM : M ≤ 6) (hm : (w64 (1 + (if 5 < (w64 (Int.tdiv (l.length : Int) 6)) then 5 else (w64 (Int.tdiv (l.length : Int) 6))))) = (M : Int)) : ∀ (n j : Nat) (f : Block) (bs : List Block), j + n = M → bs.length = j → (∀ b, b ∈ bs → BlkV p (9 + p) M b) →
  ∃ bs', Ev (fun K k => keep2_VFunc_l3 K l p (9 + p) k ((j : Int), f :: bs)) (f :: bs') ∧ bs'.length = M ∧ ∀ b, b ∈ bs' → BlkV p (9 + p) M b := by
 intro n
 induction n with
 | zero =>
  intro j f bs hj hi hv
  refine ⟨bs, Ev.step (fun K k => rfl) (Ev.f ?_ (Ev.some _)), by omega, hv⟩
  rw [hm]; simp; omega
 | succ n ih =>
  intro j f bs hj hi hv
  have hw : w64 ((j : Int) + 1) = ((j + 1 : Nat) : Int) := by rw [w64_id (by omega) (by omega)]; simp
  obtain ⟨is, e1, g1, g2⟩ := ev_vfunc_l4 hl h0 h2 (s := ((j : Int), f :: bs)) (b := j) rfl (by omega) 5 0 [] (by omega) rfl (by simp)
  have hnum : ∃ d, Ev (fun (K k : Nat) => (cnd (decide ((w64 ((w64 (6 * (j : Int))) + 5)) < (l.length : Int))) (Option.bind (idx l (w64 ((w64 (6 * (j : Int))) + 5))) (fun y65 => (some y65))) (some 0))) d := by
   have hw2 : w64 (w64 (6 * (j : Int)) + 5) = ((6 * j + 5 : Nat) : Int) := by
    rw [w64_id (n := 6 * (j : Int)) (by omega) (by omega), w64_id (by omega) (by omega)]; simp
   simp only [hw2]
   rcases Nat.lt_or_ge (6 * j + 5) l.length with q | q
   ·exact ⟨_, Ev.t (by simp; omega) (Ev.bindO (idx_get q) (Ev.some _))⟩
   ·exact ⟨0, Ev.f (by simp; omega) (Ev.some _)⟩
  obtain ⟨d, e2⟩ := hnum
  obtain ⟨r73, d73, e73, q1, q2⟩ := next_ok ⟨d⟩ (m := 6) (by omega) (by omega)
  -- how the block ends
  have hend : ∃ (dn E R T L : Int), Ev (fun (K k : Nat) => Option.bind (keep2_Digits_Next (⟨d⟩ : Fullingkeep2Digits) 6) (fun r73 => (cnd (r73.1 == 0) (Option.bind (keep2_Digits_Next r73.2 (w64 (1 + (if 5 < (w64 (Int.tdiv (l.length : Int) 6)) then 5 else (w64 (Int.tdiv (l.length : Int) 6)))))) (fun r76 => (some (r76.2.N, 1, 0, (w64 (1 + r76.1)), 0)))) (cnd (r73.1 == 1) (Option.bind (keep2_Digits_Next r73.2 9) (fun r79 => (some (r79.2.N, 4, 0, (w64 (1 + r79.1)), 0)))) (cnd (r73.1 == 2) (Option.bind (keep2_Digits_Next r73.2 (9 + p)) (fun r82 => (some (r82.2.N, 3, r82.1, 0, 0)))) (Option.bind (keep2_Digits_Next r73.2 (9 + p)) (fun r84 => (Option.bind (keep2_Digits_Next r84.2 (w64 (1 + (if 5 < (w64 (Int.tdiv (l.length : Int) 6)) then 5 else (w64 (Int.tdiv (l.length : Int) 6)))))) (fun r86 => (Option.bind (keep2_Digits_Next r86.2 (w64 (1 + (if 5 < (w64 (Int.tdiv (l.length : Int) 6)) then 5 else (w64 (Int.tdiv (l.length : Int) 6)))))) (fun r88 => (some (r88.2.N, 2, r84.1, (w64 (1 + r86.1)), (w64 (1 + r88.1)))))))))))))))
    (dn, E, R, T, L) ∧ ((E = 1 ∧ 1 ≤ T ∧ T ≤ M ∧ R = 0 ∧ L = 0) ∨ (E = 2 ∧ 1 ≤ T ∧ T ≤ M ∧ 1 ≤ L ∧ L ≤ M ∧ 0 ≤ R ∧ R < 9 + p) ∨ (E = 3 ∧ 0 ≤ R ∧ R < 9 + p ∧ T = 0 ∧ L = 0) ∨ (E = 4 ∧ 1 ≤ T ∧ T ≤ 9 ∧ R = 0 ∧ L = 0)) := by
   simp only [hm]
   have hM0 : 0 < (M : Int) := by omega
   by_cases z0 : r73 = 0
   ·obtain ⟨r, d', e, a1, a2⟩ := next_ok d73 (m := (M : Int)) hM0 (by omega)
    have hw3 : w64 (1 + r) = 1 + r := w64_id (by omega) (by omega)
    exact ⟨_, _, _, _, _, Ev.bindO e73 (Ev.t (by simp [z0]) (Ev.bindO e (Ev.some _))), .inl ⟨rfl, by rw [hw3]; omega, by rw [hw3]; omega, rfl, rfl⟩⟩
   by_cases z1 : r73 = 1
   ·obtain ⟨r, d', e, a1, a2⟩ := next_ok d73 (m := 9) (by omega) (by omega)
    have hw3 : w64 (1 + r) = 1 + r := w64_id (by omega) (by omega)
    exact ⟨_, _, _, _, _, Ev.bindO e73 (Ev.f (by simp [z0]) (Ev.t (by simp [z1]) (Ev.bindO e (Ev.some _)))), .inr (.inr (.inr ⟨rfl, by rw [hw3]; omega, by rw [hw3]; omega, rfl, rfl⟩))⟩
   by_cases z2 : r73 = 2
   ·obtain ⟨r, d', e, a1, a2⟩ := next_ok d73 (m := 9 + p) (by omega) (by omega)
    exact ⟨_, _, _, _, _, Ev.bindO e73 (Ev.f (by simp [z0]) (Ev.f (by simp [z1]) (Ev.t (by simp [z2]) (Ev.bindO e (Ev.some _))))), .inr (.inr (.inl ⟨rfl, a1, a2, rfl, rfl⟩))⟩
   ·obtain ⟨r, d', e, a1, a2⟩ := next_ok d73 (m := 9 + p) (by omega) (by omega)
    obtain ⟨r2, d2, e2, b1, b2⟩ := next_ok d' (m := (M : Int)) hM0 (by omega)
    obtain ⟨r3, d3, e3, c1, c2⟩ := next_ok d2 (m := (M : Int)) hM0 (by omega)
    have hw3 : w64 (1 + r2) = 1 + r2 := w64_id (by omega) (by omega)
    have hw4 : w64 (1 + r3) = 1 + r3 := w64_id (by omega) (by omega)
    exact ⟨_, _, _, _, _, Ev.bindO e73 (Ev.f (by simp [z0]) (Ev.f (by simp [z1]) (Ev.f (by simp [z2]) (Ev.bindO e (Ev.bindO e2 (Ev.bindO e3 (Ev.some _))))))), .inr (.inl ⟨rfl, by rw [hw3]; omega, by rw [hw3]; omega, by rw [hw4]; omega, by rw [hw4]; omega, a1, a2⟩)⟩
  obtain ⟨dn, E, R, T, L, e3, hE⟩ := hend
  have hlast : ∃ (E' R' T' : Int), Ev (fun (K k : Nat) => (cnd (((j : Int) == (w64 ((w64 (1 + (if 5 < (w64 (Int.tdiv (l.length : Int) 6)) then 5 else (w64 (Int.tdiv (l.length : Int) 6))))) - 1))) && (E == 1)) (some ((3 : Int), (0 : Int), (0 : Int))) (some (E, R, T)))) (E', R', T') ∧ BlkV p (9 + p) M ⟨is, E', R', T', L⟩ := by
   generalize ((j : Int) == (w64 ((w64 (1 + (if 5 < (w64 (Int.tdiv (l.length : Int) 6)) then 5 else (w64 (Int.tdiv (l.length : Int) 6))))) - 1))) = bb
   cases bb with
   | false => exact ⟨E, R, T, Ev.f rfl (Ev.some _), g2, g1, hE⟩
   | true =>
    by_cases h1 : E = 1
    ·have hL : L = 0 := by
      rcases hE with h | h | h | h
      ·exact h.2.2.2.2
      ·exact absurd (h.1.symm.trans h1) (by decide)
      ·exact absurd (h.1.symm.trans h1) (by decide)
      ·exact absurd (h.1.symm.trans h1) (by decide)
     exact ⟨3, 0, 0, Ev.t (by simp [h1]) (Ev.some _), g2, g1, .inr (.inr (.inl ⟨rfl, Int.le_refl 0, by show (0 : Int) < 9 + p; omega, rfl, hL⟩))⟩
    ·exact ⟨E, R, T, Ev.f (by simp [h1]) (Ev.some _), g2, g1, hE⟩
  obtain ⟨E', R', T', e4, hB⟩ := hlast
  obtain ⟨bs', e5, h5⟩ := ih (j + 1) f (bs ++ [⟨is, E', R', T', L⟩]) (by omega) (by simp [hi]) fun b hb => by
   rcases List.mem_append.1 hb with q | q
   ·exact hv b q
   ·rw [List.mem_singleton.1 q]; exact hB
  refine ⟨bs', Ev.step (fun K k => rfl) (Ev.t ?_ ?_), h5⟩
  ·rw [hm]; simp; omega
  ·refine Ev.bind (Ev.loop e1) (Ev.bind e2 (Ev.bind e3 (Ev.bind e4 (Ev.bindO (app_eq (by simp; omega) (by simp; omega)) ?_))))
   simp only [hw]; exact e5
theorem ev_vfunc {l : List Int} (hl : l.length ≤ 36) {p : Int} (h0 : 0 ≤ p) (h2 : p ≤ 2) : ∃ c, Ev (fun K _ => keep2_VFunc K l p) c ∧ VF p c := by
 have hm : (w64 (1 + (if 5 < (w64 (Int.tdiv (l.length : Int) 6)) then 5 else (w64 (Int.tdiv (l.length : Int) 6))))) = ((1 + min (l.length / 6) 5 : Nat) : Int) := by
  rw [Int.tdiv_eq_ediv_of_nonneg (by omega), w64_id (n := (l.length : Int) / 6) (by omega) (by omega)]
  split
  ·rw [w64_id (by omega) (by omega)]; omega
  ·rw [w64_id (by omega) (by omega)]; omega
 obtain ⟨bs, e, h3, h4⟩ := ev_vfunc_l3 hl h0 h2 (M := 1 + min (l.length / 6) 5) (by omega) hm (1 + min (l.length / 6) 5) 0 (firstB p (9 + p.toNat)) [] (Nat.zero_add _) rfl (by simp)
 refine ⟨⟨p, 9 + p, firstB p (9 + p.toNat) :: bs⟩, ?_, ⟨h0, h2, rfl, rfl, _, bs, rfl, h3, by omega, by omega, h4⟩⟩
 unfold keep2_VFunc
 refine Ev.bind (Ev.loop (ev_vfunc_l1 h0 h2)) (Ev.bind (Ev.loop (ev_vfunc_l2 h0 h2 (9 + p.toNat) 0 (Nat.zero_add _))) (Ev.bindO (app_eq (by simp) (by simp)) (Ev.bind (Ev.loop e) (Ev.some _))))
end Go.Proofs.YtocfnpnnbmicmaaDoor.Tc
end
section
set_option linter.unusedVariables false
set_option linter.unusedSimpArgs false
set_option maxRecDepth 20000
namespace Go.Proofs.YtocfnpnnbmicmaaDoor.Tc
open Go
theorem upto {P : Nat → Prop} {n : Nat} (h0 : P n) (hs : ∀ i, i < n → P (i + 1) → P i) : P 0 := by
 have : ∀ d i, i + d = n → P i := by
  intro d
  induction d with
  | zero => intro i h; rw [show i = n by omega]; exact h0
  | succ d ih => intro i h; exact hs i (by omega) (ih (i + 1) (by omega))
 exact this n 0 (by omega)
theorem w64_succ {i : Nat} (h : i ≤ 17592186044000) : w64 ((i : Int) + 1) = ((i + 1 : Nat) : Int) := by rw [w64_id (by omega) (by omega)]; simp
theorem drop_get {α : Type} {l : List α} {i : Nat} (h : i < l.length) : l.drop i = l[i] :: l.drop (i + 1) := List.drop_eq_getElem_cons h
theorem take36 (l : List Int) (n : Nat) : subHi l (if (n : Int) < (l.length : Int) then (n : Int) else (l.length : Int)) = some (l.take n) := by
 by_cases h : (n : Int) < (l.length : Int)
 ·rw [if_pos h]; exact subHi_eq (by omega)
 ·rw [if_neg h, subHi_eq (Nat.le_refl _), List.take_length, List.take_of_length_le (by omega)]
theorem ev_same_l1 {a b : List Int} (ha : Sm a) (hl : a.length = b.length) : Ev (fun K k => ref22_SameInts_l1 K a b k 0) (if a = b then .inl () else .inr false) := by
 have key : ∀ n i, i + n = a.length → Ev (fun K k => ref22_SameInts_l1 K a b k (i : Int)) (if a.drop i = b.drop i then .inl () else .inr false) := by
  intro n
  induction n with
  | zero =>
   intro i hi
   refine Ev.step (fun K k => rfl) (Ev.f (by simp; omega) ((Ev.inn ()).cast ?_))
   rw [List.drop_eq_nil_of_le (by omega), List.drop_eq_nil_of_le (by omega), if_pos rfl]
  | succ n ih =>
   intro i hi
   have h1 : i < a.length := by omega
   have h2 : i < b.length := by omega
   refine Ev.step (fun K k => rfl) (Ev.t (by simp; omega) (Ev.bindO (idx_get h1) (Ev.bindO (idx_get h2) ?_)))
   have := ih (i + 1) (by omega)
   rw [drop_get h1, drop_get h2]
   by_cases e : a[i] = b[i]
   ·refine Ev.f (by simp [e]) ?_
    simp only [w64_succ (i := i) (by omega), e, List.cons.injEq, true_and]
    exact this
   ·refine Ev.t (by simpa using e) ((Ev.out (Ev.some false)).cast ?_)
    rw [if_neg (fun h => e (List.cons.inj h).1)]
 simpa using key a.length 0 (by omega)
theorem ev_same {a b : List Int} (ha : Sm a) : Ev (fun K _ => ref22_SameInts K a b) (decide (a = b)) := by
 unfold ref22_SameInts
 by_cases hl : a.length = b.length
 ·refine Ev.f (by simp [hl]) ?_
  have h1 := Ev.loop (ev_same_l1 ha hl)
  by_cases e : a = b
  ·rw [if_pos e] at h1
   exact (Ev.sql h1 (Ev.some _)).cast (by simp [e])
  ·rw [if_neg e] at h1
   exact (Ev.sqr h1).cast (by simp [e])
 ·exact Ev.t (by simp; omega) ((Ev.some _).cast (by symm; simp; intro e; exact hl (by rw [e])))
theorem same_l1_eq (K : Nat) (a b : List Int) : ∀ k s, ref32_SameInts_l1 K a b k s = ref22_SameInts_l1 K a b k s := by
 intro k
 induction k with
 | zero => intro s; rfl
 | succ k ih => intro s; simp only [ref32_SameInts_l1, ref22_SameInts_l1, ih]
theorem ev_same32 {a b : List Int} (ha : Sm a) : Ev (fun K _ => ref32_SameInts K a b) (decide (a = b)) := by
 refine Ev.cast (y := decide (a = b)) ?_ rfl
 have h := ev_same (b := b) ha
 unfold ref22_SameInts at h
 unfold ref32_SameInts
 simpa only [same_l1_eq] using h
theorem VF.len {p : Int} {c : VFunc} (h : VF p c) : 2 ≤ c.Blocks.length ∧ c.Blocks.length ≤ 7 := by
 obtain ⟨M, bs, e, h1, h2, h3, _⟩ := h.hb
 rw [e, List.length_cons]; omega
theorem VF.b0 {p : Int} {c : VFunc} (h : VF p c) : bk c 0 = firstB p (9 + p.toNat) := by
 obtain ⟨M, bs, e, _⟩ := h.hb
 unfold bk; rw [e]; rfl
theorem VF.bn {p : Int} {c : VFunc} (h : VF p c) {k : Nat} (h0 : 0 < k) (hk : k < c.Blocks.length) : BlkV p (9 + p) (c.Blocks.length - 1) (bk c k) := by
 obtain ⟨M, bs, e, h1, h2, h3, h4⟩ := h.hb
 obtain ⟨j, rfl⟩ : ∃ j, k = j + 1 := ⟨k - 1, by omega⟩
 have hl : c.Blocks.length - 1 = M := by rw [e, List.length_cons, h1]; omega
 have hj : j < bs.length := by rw [e, List.length_cons] at hk; omega
 have hb : bk c (j + 1) = bs[j] := by
  unfold bk; rw [e, List.getD_eq_getElem?_getD, List.getElem?_cons_succ, List.getElem?_eq_getElem hj]; rfl
 rw [hl, hb]; exact h4 _ (List.getElem_mem hj)
theorem mem_bk {c : VFunc} {b : Block} (h : b ∈ c.Blocks) : ∃ k, k < c.Blocks.length ∧ b = bk c k := by
 obtain ⟨k, hk, e⟩ := List.mem_iff_getElem.1 h
 refine ⟨k, hk, ?_⟩
 unfold bk; rw [List.getD_eq_getElem?_getD, List.getElem?_eq_getElem hk]; exact e.symm
theorem firstB_ins {p : Int} (h0 : 0 ≤ p) (h2 : p ≤ 2) : ∀ v, v ∈ (firstB p (9 + p.toNat)).Instrs → insB ⟨p, 9 + p, []⟩ v = true := by
 have h : p = 0 ∨ p = 1 ∨ p = 2 := by omega
 rcases h with rfl | rfl | rfl
 ·exact List.all_eq_true.1 (by kernel_rfl)
 ·exact List.all_eq_true.1 (by kernel_rfl)
 ·exact List.all_eq_true.1 (by kernel_rfl)
theorem insB_blocks (p R : Int) (bs : List Block) (v : VInstr) : insB ⟨p, R, bs⟩ v = insB ⟨p, R, []⟩ v := rfl
theorem VF.vd {p : Int} {c : VFunc} (h : VF p c) : Vd c := by
 have hl := h.len
 have h0 := h.p0
 have h2 := h.p2
 have hc : c = ⟨p, 9 + p, c.Blocks⟩ := by
  cases c with
  | mk a b bs => simp only [VFunc.mk.injEq]; exact ⟨h.hp, h.hr, trivial⟩
 have hi : ∀ v, insB c v = insB ⟨p, 9 + p, []⟩ v := fun v => by rw [hc]; exact insB_blocks _ _ _ _
 refine ⟨validB_iff.2 ⟨headV_iff.2 ⟨by rw [h.hp]; exact h0, by rw [h.hp]; omega, by rw [h.hr]; omega, by rw [h.hr]; omega, by omega, by omega⟩, fun b hb => ?_⟩, fun b hb => ?_⟩
 ·obtain ⟨k, hk, rfl⟩ := mem_bk hb
  rcases Nat.eq_zero_or_pos k with q | q
  ·subst q
   rw [h.b0]
   refine ⟨fun v hv => ?_, ?_⟩
   ·rw [hi]; exact firstB_ins h0 h2 v hv
   ·show ((blkB c 1 && ((0 : Int) == 0)) && ((0 : Int) == 0)) = true
    rw [Bool.and_eq_true, Bool.and_eq_true]
    exact ⟨⟨blkB_iff.2 ⟨by omega, by omega⟩, rfl⟩, rfl⟩
  ·have hb := h.bn q hk
   refine ⟨fun v hv => by rw [hi]; exact hb.i v hv, ?_⟩
   have hr := h.hr
   unfold endB
   rcases hb.e with e | e | e | e
   ·obtain ⟨e1, e2, e3, e4, e5⟩ := e
    rw [e1, e4, e5]
    have := blkB_iff (c := c) (n := (bk c k).Target) |>.2 ⟨by omega, by omega⟩
    rw [this]; rfl
   ·obtain ⟨e1, e2, e3, e4, e5, e6, e7⟩ := e
    rw [e1]
    have t1 := blkB_iff (c := c) (n := (bk c k).Target) |>.2 ⟨by omega, by omega⟩
    have t2 := blkB_iff (c := c) (n := (bk c k).Else) |>.2 ⟨by omega, by omega⟩
    have t3 := regB_iff (c := c) (n := (bk c k).Reg) |>.2 ⟨by omega, by omega⟩
    rw [t1, t2, t3]; rfl
   ·obtain ⟨e1, e2, e3, e4, e5⟩ := e
    have t3 := regB_iff (c := c) (n := (bk c k).Reg) |>.2 ⟨by omega, by omega⟩
    rw [e1, e4, e5, t3]; rfl
   ·obtain ⟨e1, e2, e3, e4, e5⟩ := e
    rw [e1, e4, e5]
    have a1 : decide ((bk c k).Target ≥ 1) = true := by simpa using e2
    have a2 : decide ((bk c k).Target < 33554432) = true := by simp; omega
    rw [a1, a2]; rfl
 ·obtain ⟨k, hk, rfl⟩ := mem_bk hb
  rcases Nat.eq_zero_or_pos k with q | q
  ·subst q; rw [h.b0]; simp [firstB]; omega
  ·have := (h.bn q hk).n; omega
theorem VF.ilen {p : Int} {c : VFunc} (h : VF p c) {k : Nat} (hk : k < c.Blocks.length) : (bk c k).Instrs.length ≤ 11 := by
 rcases Nat.eq_zero_or_pos k with q | q
 ·subst q; rw [h.b0]; have := h.p2; simp [firstB]; omega
 ·have := (h.bn q hk).n; omega
theorem ev_head {f : Nat → Nat → VFunc → Option Bool} {l : List Int} {a : Int} {r : Bool} (h : ∀ p c, VF p c → Ev (fun K k => f K k c) r) : Ev (fun K k => Option.bind (subHi l (if 36 < (l.length : Int) then 36 else (l.length : Int))) (fun l1 => (Option.bind (keep_Pick a 3) (fun r3 => (Option.bind (keep2_VFunc K l1 r3) (fun r5 => f K k r5)))))) r := by
 obtain ⟨p, e, h0, h1⟩ := pick_ok a (m := 3) (by omega) (by omega)
 obtain ⟨c, ec, hc⟩ := ev_vfunc (l := l.take 36) (by simp; omega) h0 (p := p) (by omega)
 exact Ev.bindO (take36 l 36) (Ev.bindO e (Ev.bind ec (h p c hc)))
theorem exm3 (K : Nat) : law33_LivenessExamples (K + 100) = some true := by kernel_rfl
theorem ev_ex3 : Ev (fun K _ => law33_LivenessExamples K) true := ⟨100, fun K k hK hk => by
 obtain ⟨j, rfl⟩ : ∃ j, K = j + 100 := ⟨K - 100, by omega⟩
 exact exm3 j⟩
end Go.Proofs.YtocfnpnnbmicmaaDoor.Tc
end
section
set_option linter.unusedVariables false
set_option linter.unusedSimpArgs false
namespace Go.Proofs.YtocfnpnnbmicmaaDoor.Tc
open Go
theorem ev_fold {α A S R : Type} (l : List α) (F : Nat → Nat → Int → S → Option R) (fin : S → R) (g : A → α → A) (Rp : A → S → Prop)
  (hend : ∀ s, Ev (fun K k => F K k (l.length : Int) s) (fin s))
  (hstep : ∀ (i : Nat) (x : α) (a : A) (s : S), l[i]? = some x → i < l.length → Rp a s → ∃ s', Rp (g a x) s' ∧ ∀ r, Ev (fun K k => F K k ((i + 1 : Nat) : Int) s') r → Ev (fun K k => F K k (i : Int) s) r) :
  ∀ a s, Rp a s → ∃ s', Rp (l.foldl g a) s' ∧ Ev (fun K k => F K k 0 s) (fin s') := by
 have key : ∀ n i, i + n = l.length → ∀ a s, Rp a s → ∃ s', Rp ((l.drop i).foldl g a) s' ∧ Ev (fun K k => F K k (i : Int) s) (fin s') := by
  intro n
  induction n with
  | zero =>
   intro i hi a s h
   have : i = l.length := by omega
   subst this
   exact ⟨s, by rw [List.drop_length]; exact h, hend s⟩
  | succ n ih =>
   intro i hi a s h
   have hlt : i < l.length := by omega
   obtain ⟨s1, h1, h2⟩ := hstep i l[i] a s (List.getElem?_eq_getElem hlt) hlt h
   obtain ⟨s2, h3, h4⟩ := ih (i + 1) (by omega) _ s1 h1
   exact ⟨s2, by rw [drop_get hlt, List.foldl_cons]; exact h3, h2 _ h4⟩
 intro a s h
 have := key l.length 0 (by omega) a s h
 simpa using this
end Go.Proofs.YtocfnpnnbmicmaaDoor.Tc
end
section
set_option linter.unusedVariables false
set_option linter.unusedSimpArgs false
namespace Go.Proofs.YtocfnpnnbmicmaaDoor.Tc
open Go
def cn1 (I : Nat → List Int) (a x : Int) : Nat → List Int := fup (fup I a.toNat (ins (I a.toNat) x)) x.toNat (ins (fup I a.toNat (ins (I a.toNat) x) x.toNat) a)
def mvB (v : VInstr) (x : Int) : Bool := (v.Instr.Op == 10) && (x == v.Instr.B)
def stX (v : VInstr) (a : Int) (I : Nat → List Int) (x : Int) : Nat → List Int := if (x != a) && !(mvB v x) then cn1 I a x else I
def stA (v : VInstr) (xs : List Int) (I : Nat → List Int) (a : Int) : Nat → List Int := xs.foldl (stX v a) I
def iAt (b : Block) (i : Nat) : VInstr := b.Instrs.getD i default
def stV (b : Block) (o : List Int) (I : Nat → List Int) (i : Nat) : Nat → List Int := (wr (iAt b i)).foldl (stA (iAt b i) (lp b o (i + 1))) I
noncomputable def stB (c : VFunc) (I : Nat → List Int) (k : Nat) : Nat → List Int := (List.range (bk c k).Instrs.length).foldl (stV (bk c k) (LO c k)) I
noncomputable def IF (c : VFunc) : Nat → List Int := (List.range c.Blocks.length).foldl (stB c) (fun _ => [])
theorem iAt_get {b : Block} {i : Nat} (h : i < b.Instrs.length) : b.Instrs[i]? = some (iAt b i) := by
 unfold iAt; rw [List.getD_eq_getElem?_getD, List.getElem?_eq_getElem h]; rfl
theorem Vd.ia {c : VFunc} (h : Vd c) {k i : Nat} (hk : k < c.Blocks.length) (hi : i < (bk c k).Instrs.length) : InsV c (iAt (bk c k) i) := h.i hk (List.mem_of_getElem? (iAt_get hi))
theorem foldl_inv {α A : Type} {P : A → Prop} {g : A → α → A} {l : List α} (hs : ∀ a x, x ∈ l → P a → P (g a x)) {a : A} (ha : P a) : P (l.foldl g a) := by
 induction l generalizing a with
 | nil => exact ha
 | cons y l ih => exact ih (fun a x hx => hs a x (by simp [hx])) (hs a y (by simp) ha)
structure Gr (c : VFunc) (I : Nat → List Int) : Prop where
 s : ∀ k, RS c (I k)
 i : ∀ (k : Nat), (k : Int) ∉ I k
 y : ∀ (j k : Nat), (j : Int) ∈ I k → (k : Int) ∈ I j
theorem mem_fup {I : Nat → List Int} {a k : Nat} {l : List Int} {x : Int} : x ∈ fup I a l k ↔ if k = a then x ∈ l else x ∈ I k := by
 unfold fup; split <;> rfl
theorem mem_cn1 {I : Nat → List Int} {a x : Int} (ha : 0 ≤ a) (hx : 0 ≤ x) (hne : x ≠ a) {k : Nat} {y : Int} : y ∈ cn1 I a x k ↔ y ∈ I k ∨ ((k : Int) = a ∧ y = x) ∨ ((k : Int) = x ∧ y = a) := by
 unfold cn1
 rw [mem_fup, mem_ins, mem_fup, mem_fup, mem_ins]
 by_cases h1 : k = x.toNat
 ·subst h1
  rw [if_pos rfl, if_neg (by omega)]
  have e1 : ((x.toNat : Nat) : Int) = x := by omega
  rw [e1]
  constructor
  ·rintro (h | h)
   ·exact .inr (.inr ⟨rfl, h⟩)
   ·exact .inl h
  ·rintro (h | h | h)
   ·exact .inr h
   ·exact absurd h.1 hne
   ·exact .inl h.2
 ·rw [if_neg h1]
  by_cases h2 : k = a.toNat
  ·subst h2
   rw [if_pos rfl]
   have e1 : ((a.toNat : Nat) : Int) = a := by omega
   rw [e1]
   constructor
   ·rintro (h | h)
    ·exact .inr (.inl ⟨rfl, h⟩)
    ·exact .inl h
   ·rintro (h | h | h)
    ·exact .inr h
    ·exact .inl h.2
    ·exact absurd h.1.symm hne
  ·rw [if_neg h2]
   constructor
   ·exact .inl
   ·rintro (h | h | h)
    ·exact h
    ·omega
    ·omega
theorem srt_cn1 {I : Nat → List Int} {a x : Int} (h : ∀ k, Srt (I k)) (k : Nat) : Srt (cn1 I a x k) := by
 have h1 : ∀ k, Srt (fup I a.toNat (ins (I a.toNat) x) k) := fun k => by
  unfold fup; split
  ·exact srt_ins (h _)
  ·exact h k
 unfold cn1
 generalize fup I a.toNat (ins (I a.toNat) x) = J at h1
 unfold fup; split
 ·exact srt_ins (h1 _)
 ·exact h1 k
theorem Gr.cn1 {c : VFunc} {I : Nat → List Int} (h : Gr c I) {a x : Int} (ha : 0 ≤ a ∧ a < c.Regs) (hx : 0 ≤ x ∧ x < c.Regs) (hne : x ≠ a) : Gr c (cn1 I a x) := by
 have m := fun (k : Nat) (y : Int) => mem_cn1 (I := I) ha.1 hx.1 hne (k := k) (y := y)
 refine ⟨fun k => ⟨srt_cn1 (fun k => (h.s k).s) k, fun y hy => ?_⟩, fun k hk => ?_, fun j k hj => ?_⟩
 ·rcases (m k y).1 hy with q | ⟨_, q⟩ | ⟨_, q⟩
  ·exact (h.s k).r y q
  ·rw [q]; exact hx
  ·rw [q]; exact ha
 ·rcases (m k k).1 hk with q | ⟨q1, q2⟩ | ⟨q1, q2⟩
  ·exact h.i k q
  ·exact hne (q2.symm.trans q1)
  ·exact hne (q1.symm.trans q2)
 ·refine (m j k).2 ?_
  rcases (m k j).1 hj with q | ⟨q1, q2⟩ | ⟨q1, q2⟩
  ·exact .inl (h.y j k q)
  ·exact .inr (.inr ⟨q2, q1⟩)
  ·exact .inr (.inl ⟨q2, q1⟩)
theorem Gr.stX {c : VFunc} {I : Nat → List Int} (h : Gr c I) {v : VInstr} {a x : Int} (ha : 0 ≤ a ∧ a < c.Regs) (hx : 0 ≤ x ∧ x < c.Regs) : Gr c (stX v a I x) := by
 unfold Tc.stX
 split
 ·rename_i hc
  simp only [Bool.and_eq_true, bne_iff_ne] at hc
  exact h.cn1 ha hx hc.1
 ·exact h
theorem Gr.stV {c : VFunc} (hv : Vd c) {I : Nat → List Int} (h : Gr c I) {k i : Nat} (hk : k < c.Blocks.length) (hi : i < (bk c k).Instrs.length) : Gr c (stV (bk c k) (LO c k) I i) := by
 have hv2 := hv.ia hk hi
 have hl := RS.lp (hv.iv hk) (hv.e hk) (RS.LO hv k) (i + 1)
 unfold Tc.stV
 refine foldl_inv (P := Gr c) (fun I a ha hI => ?_) h
 unfold stA
 exact foldl_inv (P := Gr c) (fun I x hx hI => hI.stX (hv2.w a ha) (hl.r x hx)) hI
theorem Gr.stB {c : VFunc} (hv : Vd c) {I : Nat → List Int} (h : Gr c I) {k : Nat} (hk : k < c.Blocks.length) : Gr c (stB c I k) := by
 unfold Tc.stB
 exact foldl_inv (P := Gr c) (fun I i hi hI => hI.stV hv hk (List.mem_range.1 hi)) h
theorem Gr.nil (c : VFunc) : Gr c (fun _ => []) := ⟨fun k => RS.nil c, fun k h => by simp at h, fun j k h => by simp at h⟩
theorem gr_IF {c : VFunc} (hv : Vd c) : Gr c (IF c) := by
 unfold IF
 exact foldl_inv (P := Gr c) (fun I k hk hI => hI.stB hv (List.mem_range.1 hk)) (Gr.nil c)
end Go.Proofs.YtocfnpnnbmicmaaDoor.Tc
end
section
set_option linter.unusedVariables false
set_option linter.unusedSimpArgs false
namespace Go.Proofs.YtocfnpnnbmicmaaDoor.Tc
open Go
theorem after_eq {c : VFunc} {k i : Nat} (hk : k < c.Blocks.length) (hi : i < (bk c k).Instrs.length) (hl : (bk c k).Instrs.length ≤ 2199023255552) : ref32_after (LPs c k) (i : Int) = some (lp (bk c k) (LO c k) (i + 1)) := by
 unfold ref32_after
 have : (LPs c k)[i + 1]? = some (lp (bk c k) (LO c k) (i + 1)) := by
  unfold LPs lps; rw [List.getElem?_map, List.getElem?_range (by omega)]; rfl
 rw [w64_succ (by omega), idx_eq this]; rfl
def inc (u : List Int) (x : Int) : List Int := u.set x.toNat (w64 (u.getD x.toNat 0 + 1))
def ucV (u : List Int) (v : VInstr) : List Int := (wr v).foldl inc ((rd v).foldl inc u)
def ucB (u : List Int) (b : Block) : List Int := (er b).foldl inc (b.Instrs.foldl ucV u)
def UC (c : VFunc) : List Int := c.Blocks.foldl ucB (List.replicate c.Regs.toNat 0)
end Go.Proofs.YtocfnpnnbmicmaaDoor.Tc
end
section
set_option linter.unusedVariables false
set_option linter.unusedSimpArgs false
namespace Go.Proofs.YtocfnpnnbmicmaaDoor.Tc
open Go
theorem uc_rdl {c : VFunc} (h : Vd c) {v : VInstr} (hv : InsV c v) : (rd v).length ≤ 3000 := RS.len h ⟨srt_rd _, hv.r⟩
end Go.Proofs.YtocfnpnnbmicmaaDoor.Tc
end
section
set_option linter.unusedVariables false
set_option linter.unusedSimpArgs false
namespace Go.Proofs.YtocfnpnnbmicmaaDoor.Tc
open Go
def acv (v : VInstr) (l : List Int) : List Int := if v.Instr.Op == 6 then uni (mns l [v.Instr.A]) (rd v) else []
noncomputable def acB (c : VFunc) (k : Nat) (a : List Int) (i : Nat) : List Int := uni a (acv (iAt (bk c k) i) (lp (bk c k) (LO c k) (i + 1)))
noncomputable def acC (c : VFunc) (a : List Int) (k : Nat) : List Int := (List.range (bk c k).Instrs.length).foldl (acB c k) a
noncomputable def AC (c : VFunc) : List Int := (List.range c.Blocks.length).foldl (acC c) []
theorem RS.acv {c : VFunc} {v : VInstr} (hv : InsV c v) {l : List Int} (hl : RS c l) : RS c (acv v l) := by
 unfold Tc.acv; split
 ·exact (hl.mns _).uni hv.r
 ·exact RS.nil c
theorem ev_acrossCall {c : VFunc} (h : Vd c) {v : VInstr} (hv : InsV c v) {l : List Int} (hl : RS c l) : Ev (fun K _ => ref32_acrossCall K v l) (acv v l) := by
 have l1 := hl.len h
 have l2 := (hl.mns [v.Instr.A]).len h
 have l3 := uc_rdl h hv
 unfold ref32_acrossCall acv
 cases hc : (v.Instr.Op == 6) with
 | true =>
  have : (v.Instr.Op != 6) = false := by simp only [bne, hc]; rfl
  exact Ev.f this (Ev.bind (ev_minus (by unfold Sm; omega) (by simp [Sm])) (Ev.bind (ev_rreads (by have := hv.n; omega)) (Ev.bind (ev_union (by unfold Sm; omega) (by unfold Sm; omega) (by omega)) (Ev.some _))))
 | false =>
  have : (v.Instr.Op != 6) = true := by simp only [bne, hc]; rfl
  exact Ev.t this (Ev.some _)
theorem rac_l2 {c : VFunc} (h : Vd c) {k : Nat} (hk : k < c.Blocks.length) {t a : List Int} (ha : RS c a) : Ev (fun K n => ref32_AcrossCalls_l2 K c (t, (k : Int)) (LPs c k) n (a, 0)) (acC c a k) ∧ RS c (acC c a k) := by
 have hlen := h.len hk
 obtain ⟨s', ⟨rfl, hs'⟩, e⟩ := ev_fold (List.range (bk c k).Instrs.length) (fun K n i s => ref32_AcrossCalls_l2 K c (t, (k : Int)) (LPs c k) n (s, i)) id (acB c k) (fun a s => s = a ∧ RS c a)
  (fun s => Ev.step (fun K k => rfl) (Ev.bindO (bk_idx hk) (Ev.f (by simp) (Ev.some _))))
  (fun j i a s hi hj hs => by
   have hj : j < (bk c k).Instrs.length := by simpa using hj
   have : i = j := by rw [List.getElem?_range hj] at hi; exact (Option.some.inj hi).symm
   subst this
   obtain ⟨rfl, hs⟩ := hs
   have hv := h.ia hk hj
   have hl := RS.lp (h.iv hk) (h.e hk) (RS.LO h k) (i + 1)
   have hav := RS.acv hv hl
   have l1 := hs.len h
   have l2 := hav.len h
   refine ⟨acB c k s i, ⟨rfl, hs.uni hav.r⟩, fun r' hr' => Ev.step (fun K k => rfl) (Ev.bindO (bk_idx hk) (Ev.t (by simpa using hj) (Ev.bindO (bk_idx hk) (Ev.bindO (idx_eq (iAt_get hj)) (Ev.bindO (after_eq hk hj hlen) (Ev.bind (ev_acrossCall h hv hl) (Ev.bind (ev_union (a := s) (b := acv (iAt (bk c k) i) (lp (bk c k) (LO c k) (i + 1))) (by unfold Sm; omega) (by unfold Sm; omega) (by omega)) ?_)))))))⟩
   simp only [w64_succ (i := i) (by omega)]; exact hr') a a ⟨rfl, ha⟩
 exact ⟨e, hs'⟩
theorem ev_racross {c : VFunc} (h : Vd c) : Ev (fun K _ => ref32_AcrossCalls K c) (AC c) ∧ RS c (AC c) := by
 have hb1 := h.h.b1
 obtain ⟨s', ⟨rfl, hs'⟩, e⟩ := ev_fold (List.range c.Blocks.length) (fun K n i s => ref32_AcrossCalls_l1 K c n (s, i)) id (acC c) (fun a s => s = a ∧ RS c a)
  (fun s => Ev.step (fun K k => rfl) (Ev.bind (x := false) (Ev.f (by simp) (Ev.some _)) (Ev.f rfl (Ev.some _))))
  (fun j i a s hi hj hs => by
   have hj : j < c.Blocks.length := by simpa using hj
   have : i = j := by rw [List.getElem?_range hj] at hi; exact (Option.some.inj hi).symm
   subst this
   obtain ⟨rfl, hs⟩ := hs
   obtain ⟨e1, r1⟩ := rac_l2 h hj (t := s) hs
   refine ⟨acC c s i, ⟨rfl, r1⟩, fun r' hr' => Ev.step (fun K k => rfl) (Ev.bind (x := true) (Ev.t (by simpa using hj) (Ev.bind (ev_rvalid h.sm) ((Ev.some _).cast h.v))) (Ev.t rfl (Ev.bind (ev_rpoints h hj) (Ev.bind (Ev.loop e1) ?_))))⟩
   simp only [w64_succ (i := i) (by omega)]; exact hr') [] [] ⟨rfl, RS.nil c⟩
 refine ⟨?_, hs'⟩
 unfold ref32_AcrossCalls
 exact Ev.bind (Ev.loop e) (Ev.some _)
end Go.Proofs.YtocfnpnnbmicmaaDoor.Tc
end
section
set_option linter.unusedVariables false
set_option linter.unusedSimpArgs false
namespace Go.Proofs.YtocfnpnnbmicmaaDoor.Tc
open Go
theorem pac_l3 {c : VFunc} (h : Vd c) {v : VInstr} (hv : InsV c v) {ws l : List Int} (hr : Rep (nw c.Regs) ws l) : ∃ ws', Rep (nw c.Regs) ws' (uni l v.Args) ∧ Ev (fun K k => liveness_AcrossCalls_l3 K v k (0, ws)) ws' :=
 ev_fold v.Args (fun K k i s => liveness_AcrossCalls_l3 K v k (i, s)) id ins (fun a s => Rep (nw c.Regs) s a)
  (fun s => Ev.step (fun K k => rfl) (Ev.f (by simp) (Ev.some _)))
  (fun i x a s hx hi hs => by
   have hxr := hv.g x (List.mem_of_getElem? hx)
   have hn := hv.n
   obtain ⟨s', e, r⟩ := add_ok h.h.r1 hs hxr.1 hxr.2
   refine ⟨s', r, fun r' hr' => Ev.step (fun K k => rfl) (Ev.t (by simpa using hi) (Ev.bindO (idx_eq hx) (Ev.bindO e ?_)))⟩
   simp only [w64_succ (i := i) (by omega)]; exact hr') l ws hr
theorem ops6 : (opI 6).ReadsA = false ∧ (opI 6).ReadsB = false ∧ alw 6 = true := ⟨by kernel_rfl, by kernel_rfl, by kernel_rfl⟩
theorem acv_args {v : VInstr} (h6 : v.Instr.Op = 6) {l : List Int} (hl : Srt l) : acv v l = uni (mns l [v.Instr.A]) v.Args := by
 unfold acv
 rw [h6]
 refine srt_ext (srt_uni (srt_mns hl)) (srt_uni (srt_mns hl)) fun x => ?_
 have hrd : x ∈ rd v ↔ x ∈ v.Args := by
  unfold rd rdRaw
  rw [h6, ops6.1, ops6.2.1, ops6.2.2]
  simp [mem_uni]
 show x ∈ uni _ _ ↔ _
 rw [mem_uni, mem_uni, hrd]
theorem pac_l2 {c : VFunc} (h : Vd c) {k : Nat} (hk : k < c.Blocks.length) : ∀ (n : Nat) (ws al : List Int) (l : List Int), n ≤ (bk c k).Instrs.length → Rep (nw c.Regs) ws (lp (bk c k) (LO c k) n) → Rep (nw c.Regs) al l →
  ∃ ws' al' l', Ev (fun K m => liveness_AcrossCalls_l2 K (bk c k) m ((n : Int) - 1, ws, al)) (ws', al') ∧ Rep (nw c.Regs) al' l' ∧ ∀ x, x ∈ l' ↔ x ∈ l ∨ ∃ i, i < n ∧ x ∈ acv (iAt (bk c k) i) (lp (bk c k) (LO c k) (i + 1)) := by
 have hlen := h.len hk
 have hnw := nw_le h.h.r1
 intro n
 induction n with
 | zero =>
  intro ws al l _ _ hal
  exact ⟨ws, al, l, Ev.step (fun K k => rfl) (Ev.f (by simp) (Ev.some _)), hal, fun x => by simp⟩
 | succ n ih =>
  intro ws al l hn hws hal
  have hlt : n < (bk c k).Instrs.length := hn
  have hidx : ((n + 1 : Nat) : Int) - 1 = (n : Int) := by omega
  have hw2 : w64 ((n : Int) - 1) = (n : Int) - 1 := w64_id (by omega) (by omega)
  have hgv := iAt_get hlt
  have hv := h.ia hk hlt
  obtain ⟨w1, e1, r1⟩ := transfer_ok h hv hws
  rw [← lp_step hgv] at r1
  have key : ∃ al2, Rep (nw c.Regs) al2 (uni l (acv (iAt (bk c k) n) (lp (bk c k) (LO c k) (n + 1)))) ∧ Ev (fun (K m : Nat) => cnd ((iAt (bk c k) n).Instr.Op == 6) (Option.bind (app 8 ([] : List Int) ws) (fun l47 => (Option.bind (liveness_set_remove l47 (iAt (bk c k) n).Instr.A) (fun r50 => (Option.bind (liveness_AcrossCalls_l3 K (iAt (bk c k) n) K (0, r50)) (fun s52 => (Option.bind (liveness_set_union K al s52) (fun r64 => (some r64.2))))))))) (some al)) al2 := by
   by_cases h6 : (iAt (bk c k) n).Instr.Op = 6
   ·have hA : 0 ≤ (iAt (bk c k) n).Instr.A ∧ (iAt (bk c k) n).Instr.A < c.Regs := hv.w _ (by unfold wr; rw [hv.a, h6]; simp)
    obtain ⟨w2, e2, r2⟩ := remove_ok h.h.r1 hws hA.1 hA.2
    obtain ⟨w3, r3, e3⟩ := pac_l3 h hv r2
    obtain ⟨w4, e4, r4⟩ := ev_sunion hnw hal r3
    rw [← acv_args h6 hws.s] at r4
    exact ⟨w4, r4, Ev.t (by simp [h6]) (Ev.bindO (app_nil (by rw [hws.w.1]; omega) (by rw [hws.w.1]; omega)) (Ev.bindO e2 (Ev.bind (Ev.loop e3) (Ev.bind e4 (Ev.some _)))))⟩
   ·refine ⟨al, ?_, Ev.f (by simp [h6]) (Ev.some _)⟩
    have : acv (iAt (bk c k) n) (lp (bk c k) (LO c k) (n + 1)) = [] := by unfold acv; simp [h6]
    rw [this]; exact hal
  obtain ⟨al2, r2, e2⟩ := key
  obtain ⟨ws', al', l', e3, r3, hm⟩ := ih w1 al2 _ (by omega) r1 r2
  refine ⟨ws', al', l', Ev.step (fun K k => rfl) (Ev.t (by simp) ?_), r3, fun x => ?_⟩
  ·simp only [hidx, hw2]
   exact Ev.bindO (idx_eq hgv) (Ev.bind e2 (Ev.bind e1 e3))
  ·rw [hm, mem_uni]
   constructor
   ·rintro ((q | q) | ⟨i, q1, q2⟩)
    ·exact .inl q
    ·exact .inr ⟨n, by omega, q⟩
    ·exact .inr ⟨i, by omega, q2⟩
   ·rintro (q | ⟨i, q1, q2⟩)
    ·exact .inl (.inl q)
    ·by_cases e : i = n
     ·subst e; exact .inl (.inr q2)
     ·exact .inr ⟨i, by omega, q2⟩
theorem mem_rfold {f : Nat → List Int} {a : List Int} {x : Int} (n : Nat) : x ∈ (List.range n).foldl (fun a i => uni a (f i)) a ↔ x ∈ a ∨ ∃ i, i < n ∧ x ∈ f i := by
 induction n with
 | zero => simp
 | succ n ih =>
  rw [List.range_succ, List.foldl_append, List.foldl_cons, List.foldl_nil, mem_uni, ih]
  constructor
  ·rintro ((q | ⟨i, q1, q2⟩) | q)
   ·exact .inl q
   ·exact .inr ⟨i, by omega, q2⟩
   ·exact .inr ⟨n, by omega, q⟩
  ·rintro (q | ⟨i, q1, q2⟩)
   ·exact .inl (.inl q)
   ·by_cases e : i = n
    ·subst e; exact .inr q2
    ·exact .inl (.inr ⟨i, by omega, q2⟩)
theorem mem_acC {c : VFunc} {a : List Int} {k : Nat} {x : Int} : x ∈ acC c a k ↔ x ∈ a ∨ ∃ i, i < (bk c k).Instrs.length ∧ x ∈ acv (iAt (bk c k) i) (lp (bk c k) (LO c k) (i + 1)) := mem_rfold _
theorem mem_acF {c : VFunc} {a : List Int} {x : Int} (n : Nat) : x ∈ (List.range n).foldl (acC c) a ↔ x ∈ a ∨ ∃ k, k < n ∧ ∃ i, i < (bk c k).Instrs.length ∧ x ∈ acv (iAt (bk c k) i) (lp (bk c k) (LO c k) (i + 1)) := by
 induction n with
 | zero => simp
 | succ n ih =>
  rw [List.range_succ, List.foldl_append, List.foldl_cons, List.foldl_nil, mem_acC, ih]
  constructor
  ·rintro ((q | ⟨k, q1, q2⟩) | q)
   ·exact .inl q
   ·exact .inr ⟨k, by omega, q2⟩
   ·exact .inr ⟨n, by omega, q⟩
  ·rintro (q | ⟨k, q1, q2⟩)
   ·exact .inl (.inl q)
   ·by_cases e : k = n
    ·subst e; exact .inr q2
    ·exact .inl (.inr ⟨k, by omega, q2⟩)
theorem mem_AC {c : VFunc} {x : Int} : x ∈ AC c ↔ ∃ k, k < c.Blocks.length ∧ ∃ i, i < (bk c k).Instrs.length ∧ x ∈ acv (iAt (bk c k) i) (lp (bk c k) (LO c k) (i + 1)) := by
 unfold AC; rw [mem_acF]; simp
theorem ev_pacross {c : VFunc} (h : Vd c) : Ev (fun K _ => liveness_AcrossCalls K c) (AC c) := by
 have hb1 := h.h.b1
 have hnw := nw_le h.h.r1
 obtain ⟨ins, outs, e, r1, r2⟩ := ev_analyze h
 obtain ⟨w0, e0, r0⟩ := empty_ok h.h.r0 h.h.r1
 obtain ⟨s', ⟨l', r', hm⟩, el⟩ := ev_fold (List.range c.Blocks.length) (fun K n i s => liveness_AcrossCalls_l1 K c (ins, outs) n (i, s)) id (acC c) (fun a s => ∃ l, Rep (nw c.Regs) s l ∧ ∀ x, x ∈ l ↔ x ∈ a)
  (fun s => Ev.step (fun K k => rfl) (Ev.f (by simp) (Ev.some _)))
  (fun j i a s hi hj hs => by
   have hj : j < c.Blocks.length := by simpa using hj
   have : i = j := by rw [List.getElem?_range hj] at hi; exact (Option.some.inj hi).symm
   subst this
   obtain ⟨l, hs, hla⟩ := hs
   have hlen := h.len hj
   obtain ⟨wo, o1, o2⟩ := r2.r i hj
   obtain ⟨w1, e1, q1⟩ := addTerm_ok h (h.e hj) o2
   rw [← lp_last] at q1
   obtain ⟨ws', al', l', e2, r3, hm⟩ := pac_l2 h hj _ w1 s l (Nat.le_refl _) q1 hs
   have hw2 : w64 (((bk c i).Instrs.length : Int) - 1) = ((bk c i).Instrs.length : Int) - 1 := w64_id (by omega) (by omega)
   refine ⟨al', ⟨l', r3, fun x => by rw [hm, mem_acC, hla]⟩, fun r' hr' => Ev.step (fun K k => rfl) (Ev.t (by simpa using hj) (Ev.bindO (bk_idx hj) (Ev.bindO (idx_eq o1) (Ev.bindO (app_nil (by rw [o2.w.1]; omega) (by rw [o2.w.1]; omega)) (Ev.bindO e1 ?_)))))⟩
   simp only [hw2, w64_succ (i := i) (by omega)]
   exact Ev.bind (Ev.loop e2) hr') [] w0 ⟨[], r0, fun x => Iff.rfl⟩
 have hl : l' = AC c := srt_ext r'.s (ev_racross h).2.s hm
 subst hl
 unfold liveness_AcrossCalls
 exact Ev.bind (ev_vvalid h.sm) (Ev.f (by rw [h.v]; rfl) (Ev.bind e (Ev.bindO e0 (Ev.bind (Ev.loop el) (Ev.bind (ev_list hnw r') (Ev.some _))))))
end Go.Proofs.YtocfnpnnbmicmaaDoor.Tc
end
section
set_option linter.unusedVariables false
set_option linter.unusedSimpArgs false
namespace Go.Proofs.YtocfnpnnbmicmaaDoor.Tc
open Go
theorem ev_all {α R : Type} (l : List α) (F : Nat → Nat → Int → Option (Unit ⊕ R)) (t : α → Bool) (bad : R)
  (hend : Ev (fun K k => F K k (l.length : Int)) (.inl ()))
  (hstep : ∀ (i : Nat) (x : α), l[i]? = some x → i < l.length → (t x = true → ∀ r, Ev (fun K k => F K k ((i + 1 : Nat) : Int)) r → Ev (fun K k => F K k (i : Int)) r) ∧ (t x = false → Ev (fun K k => F K k (i : Int)) (.inr bad))) :
  Ev (fun K k => F K k 0) (if l.all t then .inl () else .inr bad) := by
 have key : ∀ n i, i + n = l.length → Ev (fun K k => F K k (i : Int)) (if (l.drop i).all t then .inl () else .inr bad) := by
  intro n
  induction n with
  | zero =>
   intro i hi
   have : i = l.length := by omega
   subst this
   rw [List.drop_length]; exact hend
  | succ n ih =>
   intro i hi
   have hlt : i < l.length := by omega
   obtain ⟨h1, h2⟩ := hstep i l[i] (List.getElem?_eq_getElem hlt) hlt
   rw [drop_get hlt, List.all_cons]
   cases ht : t l[i] with
   | true => rw [Bool.true_and]; exact h1 ht _ (ih (i + 1) (by omega))
   | false => exact h2 ht
 have := key l.length 0 (by omega)
 simpa using this
def locA (a : Allocation) (r : Int) : Location := a.Locations.getD r.toNat ⟨false, 0⟩
def sameL (x y : Location) : Bool := (x.InSlot == y.InSlot) && (x.Index == y.Index)
def slotT (c : VFunc) (a : Allocation) (x : Location) : Bool := if x.InSlot then !((decide (x.Index < c.Params)) || (decide (x.Index ≥ a.Slots))) else !((decide (x.Index < 0)) || (decide (x.Index ≥ 5)))
end Go.Proofs.YtocfnpnnbmicmaaDoor.Tc
end
section
set_option linter.unusedVariables false
set_option linter.unusedSimpArgs false
namespace Go.Proofs.YtocfnpnnbmicmaaDoor.Tc
open Go
theorem foldl_rng {A : Type} {P : Nat → A → Prop} {g : A → Nat → A} (n : Nat) (hs : ∀ i a, i < n → P i a → P (i + 1) (g a i)) {a : A} (ha : P 0 a) : P n ((List.range n).foldl g a) := by
 have : ∀ m, m ≤ n → P m ((List.range m).foldl g a) := by
  intro m
  induction m with
  | zero => intro _; exact ha
  | succ m ih =>
   intro h
   rw [List.range_succ, List.foldl_append, List.foldl_cons, List.foldl_nil]
   exact hs m _ (by omega) (ih (by omega))
 exact this n (Nat.le_refl _)
theorem nodup_le {α : Type} [BEq α] [LawfulBEq α] : ∀ (m l : List α), m.Nodup → (∀ x, x ∈ m → x ∈ l) → m.length ≤ l.length := by
 intro m
 induction m with
 | nil => intro l _ _; simp
 | cons x m ih =>
  intro l h1 h2
  have h1 := List.nodup_cons.1 h1
  have hx := h2 x (by simp)
  have := ih (l.erase x) h1.2 fun y hy => (List.mem_erase_of_ne (fun e => h1.1 (by rw [← e]; exact hy))).2 (h2 y (by simp [hy]))
  rw [List.length_erase_of_mem hx] at this
  have := List.length_pos_of_mem hx
  simp only [List.length_cons]; omega
theorem nodup_len {l : List Int} {n : Nat} (h : l.Nodup) (hr : ∀ x, x ∈ l → 0 ≤ x ∧ x < n) : l.length ≤ n := by
 have := nodup_le l ((List.range n).map (fun k : Nat => (k : Int))) h fun x hx => by
  have := hr x hx
  exact List.mem_map.2 ⟨x.toNat, List.mem_range.2 (by omega), by omega⟩
 simpa using this
structure AState where
 sp : List Bool
 ss : List Spill
def isSp (sp : List Bool) (r : Int) : Bool := sp.getD r.toNat false
def spl (s : AState) (x : Spill) : AState := ⟨s.sp.set x.Reg.toNat true, s.ss ++ [x]⟩
def unsp (sp : List Bool) (l : List Int) : List Int := l.filter (fun n => !(isSp sp n))
theorem isSp_set {sp : List Bool} {x r : Int} (hx0 : 0 ≤ x) (hx1 : x < sp.length) (hr : 0 ≤ r) : isSp (sp.set x.toNat true) r = (isSp sp r || r == x) := by
 unfold isSp
 rw [List.getD_eq_getElem?_getD, List.getD_eq_getElem?_getD]
 by_cases e : r = x
 ·subst e; rw [List.getElem?_set_self (by omega)]; simp
 ·have : x.toNat ≠ r.toNat := by omega
  rw [List.getElem?_set_ne this]
  have e2 : (r == x) = false := by simpa using e
  rw [e2, Bool.or_false]
structure SI (c : VFunc) (s : AState) : Prop where
 l : s.sp.length = c.Regs.toNat
 g : ∀ x, x ∈ s.ss → 0 ≤ x.Reg ∧ x.Reg < c.Regs
 m : ∀ r, 0 ≤ r → (isSp s.sp r = true ↔ r ∈ s.ss.map Spill.Reg)
 d : (s.ss.map Spill.Reg).Nodup
theorem SI.spl {c : VFunc} {s : AState} (h : SI c s) {x : Spill} (h0 : 0 ≤ x.Reg) (h1 : x.Reg < c.Regs) (hx : isSp s.sp x.Reg = false) : SI c (spl s x) := by
 have hl := h.l
 refine ⟨by simp [Tc.spl, hl], fun y hy => ?_, fun r hr => ?_, ?_⟩
 ·rcases List.mem_append.1 hy with q | q
  ·exact h.g y q
  ·rw [List.mem_singleton.1 q]; exact ⟨h0, h1⟩
 ·show isSp (s.sp.set x.Reg.toNat true) r = true ↔ r ∈ (s.ss ++ [x]).map Spill.Reg
  rw [isSp_set h0 (by omega) hr, Bool.or_eq_true, h.m r hr, beq_iff_eq]; simp
 ·show ((s.ss ++ [x]).map Spill.Reg).Nodup
  rw [List.map_append, List.nodup_append]
  refine ⟨h.d, by simp, ?_⟩
  intro a ha b hb e
  rw [List.map_cons, List.map_nil, List.mem_singleton] at hb
  rw [e, hb, ← h.m _ h0, hx] at ha; cases ha
theorem SI.len {c : VFunc} (hv : Vd c) {s : AState} (h : SI c s) : s.ss.length ≤ c.Regs.toNat := by
 have := nodup_len (n := c.Regs.toNat) h.d fun x hx => by
  obtain ⟨y, hy, rfl⟩ := List.mem_map.1 hx
  have := h.g y hy; omega
 simpa using this
theorem SI.start {c : VFunc} : SI c ⟨List.replicate c.Regs.toNat false, []⟩ := by
 refine ⟨by simp, fun x hx => by simp at hx, fun r hr => ?_, by simp⟩
 unfold isSp
 rw [List.getD_eq_getElem?_getD, List.getElem?_replicate]
 split <;> simp
theorem mem_unsp {sp : List Bool} {l : List Int} {x : Int} : x ∈ unsp sp l ↔ x ∈ l ∧ isSp sp x = false := by unfold unsp; simp
theorem RS.unsp {c : VFunc} {l : List Int} (h : RS c l) (sp : List Bool) : RS c (unsp sp l) := ⟨List.Pairwise.filter _ h.s, fun x hx => h.r x (mem_unsp.1 hx).1⟩
theorem mns_one_len {l : List Int} (h : Srt l) {x : Int} (hx : x ∈ l) : (mns l [x]).length + 1 = l.length := by
 induction l with
 | nil => simp at hx
 | cons y l ih =>
  have h1 := List.pairwise_cons.1 h
  unfold mns at ih ⊢
  by_cases e : y = x
  ·subst e
   have hn : y ∉ l := fun q => by have := h1.1 y q; omega
   have : l.filter (fun z => !([y].contains z)) = l := List.filter_eq_self.2 fun z hz => by
    have : z ≠ y := fun q => hn (q ▸ hz)
    simp [this]
   rw [List.filter_cons]
   simp only [this]
   simp
  ·have hx2 : x ∈ l := by rcases List.mem_cons.1 hx with q | q; exact absurd q.symm e; exact q
   have := ih h1.2 hx2
   rw [List.filter_cons]
   have e2 : (!([x].contains y)) = true := by simp [e]
   rw [if_pos e2, List.length_cons, List.length_cons]; omega
structure Fst (c : VFunc) (r : Int) (k i : Nat) : Prop where
 hk : k < c.Blocks.length
 hi : i < (bk c k).Instrs.length
 m : r ∈ acv (iAt (bk c k) i) (lp (bk c k) (LO c k) (i + 1))
 e : ∀ k' i', k' < c.Blocks.length → i' < (bk c k').Instrs.length → (k' < k ∨ k' = k ∧ i' < i) → r ∉ acv (iAt (bk c k') i') (lp (bk c k') (LO c k') (i' + 1))
theorem Fst.det {c : VFunc} {r : Int} {k i k' i' : Nat} (h : Fst c r k i) (h' : Fst c r k' i') : k = k' ∧ i = i' := by
 have h1 : ¬ (k' < k ∨ k' = k ∧ i' < i) := fun q => h.e k' i' h'.hk h'.hi q h'.m
 have h2 : ¬ (k < k' ∨ k = k' ∧ i < i') := fun q => h'.e k i h.hk h.hi q h.m
 omega
open Classical in
noncomputable def fcl (c : VFunc) (r : Int) : Nat × Nat := if h : ∃ p : Nat × Nat, Fst c r p.1 p.2 then h.choose else (0, 0)
theorem fcl_eq {c : VFunc} {r : Int} {k i : Nat} (h : Fst c r k i) : fcl c r = (k, i) := by
 unfold fcl
 have hx : ∃ p : Nat × Nat, Fst c r p.1 p.2 := ⟨(k, i), h⟩
 rw [dif_pos hx]
 have := hx.choose_spec
 have := this.det h
 exact Prod.ext this.1 this.2
noncomputable def sp1 (c : VFunc) (s : AState) (r : Int) : AState := spl s ⟨r, 1, (fcl c r).1, (fcl c r).2, []⟩
noncomputable def ph1 (c : VFunc) : AState := (AC c).foldl (sp1 c) ⟨List.replicate c.Regs.toNat false, []⟩
def wt (w : List Int) (n : Int) : Int := w.getD n.toNat 0
def bst (w : List Int) (h : List Int) : Int := h.foldl (fun b n => if wt w n ≤ wt w b then n else b) (h.headD 0)
def prs (w : List Int) (k i : Nat) : Nat → List Int → AState → AState
 | 0, _, s => s
 | n + 1, h, s => prs w k i n (mns h [bst w h]) (spl s ⟨bst w h, 2, k, i, mns h [bst w h]⟩)
noncomputable def ph2P (c : VFunc) (w : List Int) (k : Nat) (s : AState) (i : Nat) : AState := prs w k i ((unsp s.sp (lp (bk c k) (LO c k) i)).length - 5) (unsp s.sp (lp (bk c k) (LO c k) i)) s
noncomputable def ph2B (c : VFunc) (w : List Int) (s : AState) (k : Nat) : AState := (List.range ((bk c k).Instrs.length + 1)).foldl (ph2P c w k) s
noncomputable def ph2 (c : VFunc) (s : AState) : AState := (List.range c.Blocks.length).foldl (ph2B c (UC c)) s
theorem bst_mem {w : List Int} {h : List Int} (hh : h ≠ []) : bst w h ∈ h := by
 unfold bst
 cases h with
 | nil => exact absurd rfl hh
 | cons y h => exact foldl_inv (P := fun b => b ∈ y :: h) (fun a x hx ha => by split; exact hx; exact ha) (by simp)
def locL (loc : List Location) (r : Int) : Location := loc.getD r.toNat ⟨false, 0⟩
theorem locL_set {loc : List Location} {x : Location} {a r : Nat} (ha : a < loc.length) : locL (loc.set a x) (r : Int) = if r = a then x else locL loc (r : Int) := by
 unfold locL
 rw [List.getD_eq_getElem?_getD, List.getD_eq_getElem?_getD, Int.toNat_natCast]
 by_cases e : r = a
 ·subst e; rw [if_pos rfl, List.getElem?_set_self ha]; rfl
 ·rw [if_neg e, List.getElem?_set_ne (fun q => e q.symm)]
def owP (sp : List Bool) (loc : List Location) (r : Nat) (m : Int) (y : Int) : Bool := (decide (y < (r : Int)) && !(isSp sp y)) && ((locL loc y).Index == m)
def own (l : List Int) (sp : List Bool) (loc : List Location) (r : Nat) (m : Int) : Int := (l.find? (owP sp loc r m)).getD (-1)
def owns (l : List Int) (sp : List Bool) (loc : List Location) (r : Nat) : List Int := (List.range 5).map (fun m : Nat => own l sp loc r m)
def frM (l : List Int) (sp : List Bool) (loc : List Location) (r : Nat) : Option Nat := (List.range 5).find? (fun m : Nat => decide (own l sp loc r m < 0))
noncomputable def col (c : VFunc) (q : AState × List Location) (r : Nat) : AState × List Location :=
 if isSp q.1.sp r then q else match frM (IF c r) q.1.sp q.2 r with
  | some m => (q.1, q.2.set r ⟨false, m⟩)
  | none => (spl q.1 ⟨r, 3, 0, 0, owns (IF c r) q.1.sp q.2 r⟩, q.2)
def loc0 (c : VFunc) : List Location := List.replicate c.Regs.toNat ⟨false, 0⟩
noncomputable def ph3 (c : VFunc) (s : AState) : AState × List Location := (List.range c.Regs.toNat).foldl (col c) (s, loc0 c)
def slo (sp : List Bool) (q : List Location × Int) (r : Nat) : List Location × Int := if isSp sp r then (q.1.set r ⟨true, q.2⟩, q.2 + 1) else q
noncomputable def ph4 (c : VFunc) (q : AState × List Location) : List Location × Int := (List.range c.Regs.toNat).foldl (slo q.1.sp) (q.2, c.Params)
noncomputable def fin3 (c : VFunc) : AState × List Location := ph3 c (ph2 c (ph1 c))
noncomputable def fin4 (c : VFunc) : List Location × Int := ph4 c (fin3 c)
noncomputable def ALa (c : VFunc) : Allocation := ⟨(fin4 c).1, (fin3 c).1.ss, (fin4 c).2⟩
noncomputable def AL (c : VFunc) : Allocation × Int := if (LI c 0).length > 0 then (⟨[], [], 0⟩, 205) else if (fin4 c).2 > 3000 then (⟨[], [], 0⟩, 6) else (ALa c, 0)
theorem si_ph1 {c : VFunc} (h : Vd c) : SI c (ph1 c) := by
 have hrs := (ev_racross h).2
 have : ∀ (l : List Int) (s : AState), Srt l → (∀ x, x ∈ l → 0 ≤ x ∧ x < c.Regs) → (∀ x, x ∈ l → isSp s.sp x = false) → SI c s → SI c (l.foldl (sp1 c) s) := by
  intro l
  induction l with
  | nil => exact fun s _ _ _ h => h
  | cons y l ih =>
   intro s h1 h2 h3 h4
   have hy := h2 y (by simp)
   have hs := List.pairwise_cons.1 h1
   refine ih _ hs.2 (fun x hx => h2 x (by simp [hx])) (fun x hx => ?_) (h4.spl hy.1 hy.2 (h3 y (by simp)))
   have hl := h4.l
   have hx2 := h2 x (by simp [hx])
   have := hs.1 x hx
   show isSp (s.sp.set y.toNat true) x = false
   rw [isSp_set hy.1 (by omega) hx2.1, h3 x (by simp [hx])]
   simp; omega
 exact this _ _ hrs.s hrs.r (fun x hx => by
  unfold isSp
  rw [List.getD_eq_getElem?_getD, List.getElem?_replicate]
  split <;> rfl) SI.start
theorem prs_inv {c : VFunc} {P : AState → Prop} {w : List Int} {k i : Nat} {l : List Int} (hl : RS c l) (hP : ∀ s r o, SI c s → P s → r ∈ l → isSp s.sp r = false → (∀ x, x ∈ o → x ∈ l ∧ isSp s.sp x = false) → Srt o → r ∉ o → 5 ≤ o.length → P (spl s ⟨r, 2, k, i, o⟩)) : ∀ n h s, Srt h → (∀ x, x ∈ h → x ∈ l ∧ isSp s.sp x = false) → (n = 0 ∨ n + 5 ≤ h.length) → SI c s → P s → SI c (prs w k i n h s) ∧ P (prs w k i n h s) := by
 intro n
 induction n with
 | zero => exact fun h s _ _ _ h1 h2 => ⟨h1, h2⟩
 | succ n ih =>
  intro h s hr hu hn hs hp
  have hn : n + 1 + 5 ≤ h.length := by omega
  have hb : bst w h ∈ h := bst_mem (by intro e; rw [e] at hn; simp at hn)
  have hbu := hu _ hb
  have hbr := hl.r _ hbu.1
  have hlen := mns_one_len hr hb
  have hsl := hs.l
  have hm : ∀ x, x ∈ mns h [bst w h] → x ∈ h ∧ x ≠ bst w h := fun x hx => ⟨(mem_mns.1 hx).1, by have := (mem_mns.1 hx).2; simpa using this⟩
  refine ih (mns h [bst w h]) _ (srt_mns hr) (fun x hx => ?_) (by omega) (hs.spl hbr.1 hbr.2 hbu.2) (hP s _ _ hs hp hbu.1 hbu.2 (fun x hx => hu x (hm x hx).1) (srt_mns hr) (fun q => (hm _ q).2 rfl) (by omega))
  have hx2 := hm x hx
  refine ⟨(hu x hx2.1).1, ?_⟩
  show isSp (s.sp.set (bst w h).toNat true) x = false
  rw [isSp_set hbr.1 (by omega) (hl.r x (hu x hx2.1).1).1, (hu x hx2.1).2]
  have := hx2.2
  simpa using this
theorem ph2_inv {c : VFunc} (hv : Vd c) {P : AState → Prop} (hP : ∀ k i s r o, k < c.Blocks.length → i ≤ (bk c k).Instrs.length → SI c s → P s → r ∈ lp (bk c k) (LO c k) i → isSp s.sp r = false → (∀ x, x ∈ o → x ∈ lp (bk c k) (LO c k) i ∧ isSp s.sp x = false) → Srt o → r ∉ o → 5 ≤ o.length → P (spl s ⟨r, 2, k, i, o⟩)) {s : AState} (hs : SI c s) (hp : P s) : SI c (ph2 c s) ∧ P (ph2 c s) := by
 unfold ph2
 refine foldl_inv (P := fun s => SI c s ∧ P s) (fun s k hk hs => ?_) ⟨hs, hp⟩
 have hk := List.mem_range.1 hk
 unfold ph2B
 refine foldl_inv (P := fun s => SI c s ∧ P s) (fun s i hi hs => ?_) hs
 have hi := List.mem_range.1 hi
 have hl := RS.lp (hv.iv hk) (hv.e hk) (RS.LO hv k) i
 unfold ph2P
 exact prs_inv hl (fun s r o h1 h2 h3 h4 h5 h6 h7 h8 => hP k i s r o hk (by omega) h1 h2 h3 h4 h5 h6 h7 h8) _ _ s (hl.unsp s.sp).s (fun x hx => mem_unsp.1 hx) (by omega) hs.1 hs.2
inductive Jst (c : VFunc) (sp : List Bool) (loc : List Location) (b : Nat) (pre : List Int) (x : Spill) : Prop
 | call (k i : Nat) (hk : k < c.Blocks.length) (hi : i < (bk c k).Instrs.length) (r : x.Reason = 1) (eb : x.Block = k) (ei : x.Index = i) (o : x.Others = []) (m : x.Reg ∈ acv (iAt (bk c k) i) (lp (bk c k) (LO c k) (i + 1)))
 | pres (k i : Nat) (hk : k < c.Blocks.length) (hi : i ≤ (bk c k).Instrs.length) (r : x.Reason = 2) (eb : x.Block = k) (ei : x.Index = i) (m : x.Reg ∈ lp (bk c k) (LO c k) i) (u : ∀ y, y ∈ x.Others → y ∈ lp (bk c k) (LO c k) i ∧ y ∉ pre) (s : Srt x.Others) (n : x.Reg ∉ x.Others) (l : 5 ≤ x.Others.length)
 | colr (r : x.Reason = 3) (eb : x.Block = 0) (ei : x.Index = 0) (l : x.Others.length = 5) (u : ∀ (m : Nat) y, x.Others[m]? = some y → y ∈ IF c x.Reg.toNat ∧ 0 ≤ y ∧ y < b ∧ isSp sp y = false ∧ locL loc y = ⟨false, m⟩)
def JL (c : VFunc) (sp : List Bool) (loc : List Location) (b : Nat) (ss : List Spill) : Prop := ∀ pre x post, ss = pre ++ x :: post → Jst c sp loc b (pre.map Spill.Reg) x
theorem JL.nil {c : VFunc} {sp : List Bool} {loc : List Location} {b : Nat} : JL c sp loc b [] := fun pre x post h => by simp at h
theorem JL.snoc {c : VFunc} {sp : List Bool} {loc : List Location} {b : Nat} {ss : List Spill} {x : Spill} (h : JL c sp loc b ss) (hx : Jst c sp loc b (ss.map Spill.Reg) x) : JL c sp loc b (ss ++ [x]) := fun pre y post e => by
 rcases List.eq_nil_or_concat post with rfl | ⟨q, z, rfl⟩
 ·have e2 := List.append_inj' e rfl
  obtain ⟨e3, e4⟩ := e2
  rw [← e3]
  obtain rfl : x = y := by simpa using e4
  exact hx
 ·have e1 : ss ++ [x] = (pre ++ y :: q) ++ [z] := by rw [e]; simp
  exact h pre y q (List.append_inj' e1 rfl).1
theorem JL.mono {c : VFunc} {sp sp' : List Bool} {loc loc' : List Location} {b b' : Nat} {ss : List Spill} (h : JL c sp loc b ss) (hb : b ≤ b') (hs : ∀ y : Int, 0 ≤ y → y < b → isSp sp y = false → isSp sp' y = false ∧ locL loc' y = locL loc y) : JL c sp' loc' b' ss := by
 intro pre x post e
 cases h pre x post e with
 | call k i hk hi r eb ei o m => exact .call k i hk hi r eb ei o m
 | pres k i hk hi r eb ei m u s n l => exact .pres k i hk hi r eb ei m u s n l
 | colr r eb ei l u =>
   refine .colr r eb ei l fun m y hy => ?_
   obtain ⟨h1, h2, h3, h4, h5⟩ := u m y hy
   have := hs y h2 h3 h4
   exact ⟨h1, h2, by omega, this.1, by rw [this.2]; exact h5⟩
theorem sp1_sub {c : VFunc} {s : AState} {r x : Int} (h : isSp s.sp x = true) (hr0 : 0 ≤ r) (hr1 : r < s.sp.length) (hx : 0 ≤ x) : isSp (sp1 c s r).sp x = true := by
 show isSp (s.sp.set r.toNat true) x = true
 rw [isSp_set hr0 hr1 hx, h]; rfl
theorem fst_ex {c : VFunc} {r : Int} (h : r ∈ AC c) : ∃ k i, Fst c r k i := by
 obtain ⟨k, hk, i, hi, hm⟩ := mem_AC.1 h
 clear h
 have main : ∀ n k i, k < c.Blocks.length → i < (bk c k).Instrs.length → r ∈ acv (iAt (bk c k) i) (lp (bk c k) (LO c k) (i + 1)) → k ≤ n → ∃ k i, Fst c r k i := by
  intro n
  induction n using Nat.strongRecOn with
  | _ n ihn =>
   intro k i hk hi hm hkn
   by_cases hx : ∃ k' i', k' < c.Blocks.length ∧ i' < (bk c k').Instrs.length ∧ k' < k ∧ r ∈ acv (iAt (bk c k') i') (lp (bk c k') (LO c k') (i' + 1))
   ·obtain ⟨k', i', a1, a2, a3, a4⟩ := hx
    exact ihn k' (by omega) k' i' a1 a2 a4 (Nat.le_refl _)
   ·have inner : ∀ j i, i ≤ j → i < (bk c k).Instrs.length → r ∈ acv (iAt (bk c k) i) (lp (bk c k) (LO c k) (i + 1)) → ∃ k i, Fst c r k i := by
     intro j
     induction j with
     | zero =>
      intro i h1 h2 h3
      refine ⟨k, i, hk, h2, h3, fun k' i' b1 b2 b3 b4 => ?_⟩
      rcases b3 with b3 | b3
      ·exact hx ⟨k', i', b1, b2, b3, b4⟩
      ·omega
     | succ j ihj =>
      intro i h1 h2 h3
      by_cases hy : ∃ i', i' < i ∧ r ∈ acv (iAt (bk c k) i') (lp (bk c k) (LO c k) (i' + 1))
      ·obtain ⟨i', c1, c2⟩ := hy
       exact ihj i' (by omega) (by omega) c2
      ·refine ⟨k, i, hk, h2, h3, fun k' i' b1 b2 b3 b4 => ?_⟩
       rcases b3 with b3 | ⟨b3, b5⟩
       ·exact hx ⟨k', i', b1, b2, b3, b4⟩
       ·subst b3; exact hy ⟨i', b5, b4⟩
    exact inner i i (Nat.le_refl _) hi hm
 exact main k k i hk hi hm (Nat.le_refl _)
theorem ph1_ok {c : VFunc} (h : Vd c) : SI c (ph1 c) ∧ (∀ x, x ∈ AC c → isSp (ph1 c).sp x = true) ∧ (∀ sp loc b, JL c sp loc b (ph1 c).ss) ∧ ∀ x, x ∈ (ph1 c).ss → x.Reg ∈ AC c := by
 have hrs := (ev_racross h).2
 have hsi := si_ph1 h
 refine ⟨hsi, ?_⟩
 have main : ∀ (l : List Int) (s : AState), (∀ x, x ∈ l → x ∈ AC c) → s.sp.length = c.Regs.toNat → (∀ sp loc b, JL c sp loc b s.ss) → (∀ x, x ∈ s.ss → x.Reg ∈ AC c) → (∀ x, (x ∈ l ∨ (0 ≤ x ∧ isSp s.sp x = true)) → isSp (l.foldl (sp1 c) s).sp x = true) ∧ (∀ sp loc b, JL c sp loc b (l.foldl (sp1 c) s).ss) ∧ ∀ x, x ∈ (l.foldl (sp1 c) s).ss → x.Reg ∈ AC c := by
  intro l
  induction l with
  | nil => exact fun s _ _ h1 h2 => ⟨fun x hx => by rcases hx with q | q; simp at q; exact q.2, h1, h2⟩
  | cons y l ih =>
   intro s h1 h2 h3 h4
   have hy := h1 y (by simp)
   have hyr := hrs.r y hy
   obtain ⟨k, i, hf⟩ := fst_ex hy
   obtain ⟨g1, g2, g3⟩ := ih (sp1 c s y) (fun x hx => h1 x (by simp [hx])) (by simp [sp1, spl, h2]) (fun sp loc b => (h3 sp loc b).snoc (.call k i hf.hk hf.hi rfl (by simp [fcl_eq hf]) (by simp [fcl_eq hf]) rfl hf.m)) (fun x hx => by
    rcases List.mem_append.1 hx with q | q
    ·exact h4 x q
    ·rw [List.mem_singleton.1 q]; exact hy)
   refine ⟨fun x hx => ?_, g2, g3⟩
   rw [List.foldl_cons]
   rcases hx with q | ⟨q0, q⟩
   ·rcases List.mem_cons.1 q with e | e
    ·subst e
     refine g1 x (.inr ⟨hyr.1, ?_⟩)
     show isSp (s.sp.set x.toNat true) x = true
     rw [isSp_set hyr.1 (by omega) hyr.1]; simp
    ·exact g1 x (.inl e)
   ·exact g1 x (.inr ⟨q0, sp1_sub q hyr.1 (by omega) q0⟩)
 obtain ⟨g1, g2, g3⟩ := main (AC c) ⟨List.replicate c.Regs.toNat false, []⟩ (fun _ h => h) (by simp) (fun _ _ _ => JL.nil) (fun x hx => by simp at hx)
 exact ⟨fun x hx => g1 x (.inl hx), g2, g3⟩
theorem ph2_ok {c : VFunc} (h : Vd c) : SI c (ph2 c (ph1 c)) ∧ (∀ x, x ∈ AC c → isSp (ph2 c (ph1 c)).sp x = true) ∧ (∀ sp loc b, JL c sp loc b (ph2 c (ph1 c)).ss) := by
 obtain ⟨h1, h2, h3, _⟩ := ph1_ok h
 have hrs := (ev_racross h).2
 obtain ⟨g1, g2⟩ := ph2_inv h (P := fun s => (∀ x, x ∈ AC c → isSp s.sp x = true) ∧ (∀ sp loc b, JL c sp loc b s.ss)) (fun k i s r o hk hi hs hp hr hu ho hso hno hlo => by
  have hl := RS.lp (h.iv hk) (h.e hk) (RS.LO h k) i
  have hrr := hl.r r hr
  have hsl := hs.l
  refine ⟨fun x hx => ?_, fun sp loc b => (hp.2 sp loc b).snoc (.pres k i hk hi rfl rfl rfl hr (fun y hy => ⟨(ho y hy).1, fun q => ?_⟩) hso hno hlo)⟩
  ·show isSp (s.sp.set r.toNat true) x = true
   rw [isSp_set hrr.1 (by omega) (hrs.r x hx).1, hp.1 x hx]; rfl
  ·have := (hs.m y (hl.r y (ho y hy).1).1).2 q
   rw [(ho y hy).2] at this; cases this) h1 ⟨h2, h3⟩
 exact ⟨g1, g2⟩
end Go.Proofs.YtocfnpnnbmicmaaDoor.Tc
end
section
set_option linter.unusedVariables false
set_option linter.unusedSimpArgs false
namespace Go.Proofs.YtocfnpnnbmicmaaDoor.Tc
open Go
theorem owns_get {l : List Int} {sp : List Bool} {loc : List Location} {r m : Nat} (h : m < 5) : (owns l sp loc r)[m]? = some (own l sp loc r m) := by
 unfold owns; rw [List.getElem?_map, List.getElem?_range h]; rfl
theorem owns_len (l : List Int) (sp : List Bool) (loc : List Location) (r : Nat) : (owns l sp loc r).length = 5 := by simp [owns]
theorem own_neg {l : List Int} {sp : List Bool} {loc : List Location} {r : Nat} {m : Int} (hl : ∀ y, y ∈ l → 0 ≤ y) (h : own l sp loc r m < 0) : ∀ y, y ∈ l → y < (r : Int) → isSp sp y = false → (locL loc y).Index ≠ m := by
 unfold own at h
 cases hf : l.find? (owP sp loc r m) with
 | some y => rw [hf] at h; have := hl y (List.mem_of_find?_eq_some hf); simp at h; omega
 | none =>
  intro y hy h1 h2 h3
  have := List.find?_eq_none.1 hf y hy
  apply this
  unfold owP
  simp [h1, h2, h3]
theorem own_pos {l : List Int} {sp : List Bool} {loc : List Location} {r : Nat} {m : Int} (h : 0 ≤ own l sp loc r m) : own l sp loc r m ∈ l ∧ own l sp loc r m < (r : Int) ∧ isSp sp (own l sp loc r m) = false ∧ (locL loc (own l sp loc r m)).Index = m := by
 unfold own at h ⊢
 cases hf : l.find? (owP sp loc r m) with
 | none => rw [hf] at h; simp at h
 | some y =>
  have h1 := List.mem_of_find?_eq_some hf
  have h2 := List.find?_some hf
  unfold owP at h2
  simp only [Bool.and_eq_true, decide_eq_true_eq, Bool.not_eq_true', beq_iff_eq] at h2
  exact ⟨h1, h2.1.1, h2.1.2, h2.2⟩
structure C3 (c : VFunc) (r : Nat) (q : AState × List Location) : Prop where
 s : SI c q.1
 l : q.2.length = c.Regs.toNat
 a : ∀ x, x ∈ AC c → isSp q.1.sp x = true
 k : ∀ y : Nat, y < r → isSp q.1.sp (y : Int) = false → ∃ m : Nat, m < 5 ∧ locL q.2 (y : Int) = ⟨false, (m : Int)⟩
 d : ∀ y z : Nat, y < r → z < r → isSp q.1.sp (y : Int) = false → isSp q.1.sp (z : Int) = false → (y : Int) ∈ IF c z → (locL q.2 (y : Int)).Index ≠ (locL q.2 (z : Int)).Index
 j : JL c q.1.sp q.2 r q.1.ss
theorem C3.step {c : VFunc} (h : Vd c) {r : Nat} (hr : r < c.Regs.toNat) {q : AState × List Location} (hq : C3 c r q) : C3 c (r + 1) (col c q r) := by
 have g := gr_IF h
 have hsl := hq.s.l
 have hl := hq.l
 have hpos : ∀ y, y ∈ IF c r → 0 ≤ y := fun y hy => ((g.s r).r y hy).1
 unfold col
 cases hsp : isSp q.1.sp (r : Int) with
 | true =>
  rw [if_pos rfl]
  refine ⟨hq.s, hl, hq.a, fun y hy hu => ?_, fun y z hy hz hu hv => ?_, hq.j.mono (by omega) fun y h0 h1 h2 => ⟨h2, rfl⟩⟩
  ·have : y ≠ r := fun e => by rw [e, hsp] at hu; cases hu
   exact hq.k y (by omega) hu
  ·have : y ≠ r := fun e => by rw [e, hsp] at hu; cases hu
   have : z ≠ r := fun e => by rw [e, hsp] at hv; cases hv
   exact hq.d y z (by omega) (by omega) hu hv
 | false =>
  rw [if_neg (by simp)]
  cases hf : frM (IF c r) q.1.sp q.2 r with
  | some m =>
   unfold frM at hf
   have hm := List.mem_range.1 (List.mem_of_find?_eq_some hf)
   have hneg : own (IF c r) q.1.sp q.2 r (m : Int) < 0 := by have := List.find?_some hf; simpa using this
   have hno := own_neg hpos hneg
   have hset : ∀ y : Nat, locL (q.2.set r ⟨false, (m : Int)⟩) (y : Int) = if y = r then ⟨false, (m : Int)⟩ else locL q.2 (y : Int) := fun y => locL_set (by omega)
   refine ⟨hq.s, by simp [hl], hq.a, fun y hy hu => ?_, fun y z hy hz hu hv hyz => ?_, hq.j.mono (by omega) fun y h0 h1 h2 => ⟨h2, ?_⟩⟩
   ·show ∃ m : Nat, m < 5 ∧ locL (q.2.set r _) _ = _
    rw [hset]
    by_cases e : y = r
    ·exact ⟨m, hm, by rw [if_pos e]⟩
    ·rw [if_neg e]; exact hq.k y (by omega) hu
   ·show (locL (q.2.set r _) _).Index ≠ (locL (q.2.set r _) _).Index
    rw [hset, hset]
    by_cases e : y = r
    ·subst e
     rw [if_pos rfl]
     by_cases e2 : z = y
     ·subst e2; exact absurd hyz (g.i z)
     ·rw [if_neg e2]
      have := hno z (g.y _ _ hyz) (by omega) hv
      exact fun q => this q.symm
    ·rw [if_neg e]
     by_cases e2 : z = r
     ·subst e2; rw [if_pos rfl]; exact hno y hyz (by omega) hu
     ·rw [if_neg e2]; exact hq.d y z (by omega) (by omega) hu hv hyz
   ·have := hset y.toNat
    rw [show ((y.toNat : Nat) : Int) = y by omega] at this
    show locL (q.2.set r _) y = _
    rw [this, if_neg (by omega)]
  | none =>
   unfold frM at hf
   have hown : ∀ m : Nat, m < 5 → 0 ≤ own (IF c r) q.1.sp q.2 r m := fun m hm => by
    have := List.find?_eq_none.1 hf m (List.mem_range.2 hm)
    simpa using this
   have hs' := hq.s.spl (x := ⟨r, 3, 0, 0, owns (IF c r) q.1.sp q.2 r⟩) (show (0 : Int) ≤ r by omega) (show (r : Int) < c.Regs by omega) hsp
   have hset : ∀ y : Int, 0 ≤ y → isSp (q.1.sp.set r true) y = (isSp q.1.sp y || y == (r : Int)) := fun y hy => by
    have := isSp_set (sp := q.1.sp) (x := (r : Int)) (r := y) (by omega) (by omega) hy
    simpa using this
   have hback : ∀ y : Int, 0 ≤ y → isSp (q.1.sp.set r true) y = false → isSp q.1.sp y = false ∧ y ≠ r := fun y hy hu => by
    rw [hset y hy, Bool.or_eq_false_iff, beq_eq_false_iff_ne] at hu; exact hu
   refine ⟨hs', hl, fun x hx => ?_, fun y hy hu => ?_, fun y z hy hz hu hv hyz => ?_, ?_⟩
   ·have hxr := (ev_racross h).2.r x hx
    show isSp (q.1.sp.set r true) x = true
    rw [hset x hxr.1, hq.a x hx]; rfl
   ·have hb := hback y (by omega) hu
    exact hq.k y (by omega) hb.1
   ·have hb := hback y (by omega) hu
    have hb2 := hback z (by omega) hv
    exact hq.d y z (by omega) (by omega) hb.1 hb2.1 hyz
   ·have hm : ∀ y : Int, 0 ≤ y → y < r → isSp q.1.sp y = false → isSp (q.1.sp.set r true) y = false := fun y h0 h1 h2 => by
     rw [hset y h0, h2]; simp; omega
    refine JL.snoc (hq.j.mono (by omega) fun y h0 h1 h2 => ⟨hm y h0 h1 h2, rfl⟩) (.colr rfl rfl rfl (owns_len _ _ _ _) fun m y hy => ?_)
    have hm5 : m < 5 := by
     have := (List.getElem?_eq_some_iff.1 hy).1
     rw [owns_len] at this; exact this
    rw [owns_get hm5] at hy
    have hy := Option.some.inj hy
    have h0 := hown m hm5
    obtain ⟨h1, h2, h3, h4⟩ := own_pos h0
    rw [hy] at h0 h1 h2 h3 h4
    refine ⟨by simpa using h1, h0, by omega, hm y h0 h2 h3, ?_⟩
    obtain ⟨m', _, e⟩ := hq.k y.toNat (by omega) (by rw [show ((y.toNat : Nat) : Int) = y by omega]; exact h3)
    rw [show ((y.toNat : Nat) : Int) = y by omega] at e
    rw [e] at h4 ⊢
    rw [show ((m' : Nat) : Int) = m from h4]
theorem c3_fin {c : VFunc} (h : Vd c) : C3 c c.Regs.toNat (fin3 c) := by
 obtain ⟨h1, h2, h3⟩ := ph2_ok h
 unfold fin3 ph3
 exact foldl_rng (P := C3 c) c.Regs.toNat (fun i a hi ha => ha.step h hi) ⟨h1, by simp [loc0], h2, fun y hy => by omega, fun y z hy => by omega, h3 _ _ _⟩
structure C4 (c : VFunc) (sp : List Bool) (loc : List Location) (r : Nat) (q : List Location × Int) : Prop where
 l : q.1.length = c.Regs.toNat
 k : ∀ y : Nat, (r ≤ y ∨ isSp sp (y : Int) = false) → locL q.1 (y : Int) = locL loc (y : Int)
 s : ∀ y : Nat, y < r → isSp sp (y : Int) = true → ∃ j, locL q.1 (y : Int) = ⟨true, j⟩ ∧ c.Params ≤ j ∧ j < q.2
 d : ∀ y z : Nat, y < r → z < r → y ≠ z → isSp sp (y : Int) = true → isSp sp (z : Int) = true → (locL q.1 (y : Int)).Index ≠ (locL q.1 (z : Int)).Index
 b : c.Params ≤ q.2 ∧ q.2 ≤ c.Params + r
theorem C4.step {c : VFunc} {sp : List Bool} {loc : List Location} {r : Nat} (hr : r < c.Regs.toNat) {q : List Location × Int} (hq : C4 c sp loc r q) : C4 c sp loc (r + 1) (slo sp q r) := by
 have hl := hq.l
 have hb := hq.b
 unfold slo
 cases hsp : isSp sp (r : Int) with
 | false =>
  rw [if_neg (by simp)]
  refine ⟨hl, fun y hy => hq.k y (by rcases hy with q | q; exact .inl (by omega); exact .inr q), fun y hy hu => ?_, fun y z hy hz hne hu hv => ?_, by omega⟩
  ·have : y ≠ r := fun e => by rw [e, hsp] at hu; cases hu
   exact hq.s y (by omega) hu
  ·have : y ≠ r := fun e => by rw [e, hsp] at hu; cases hu
   have : z ≠ r := fun e => by rw [e, hsp] at hv; cases hv
   exact hq.d y z (by omega) (by omega) hne hu hv
 | true =>
  rw [if_pos rfl]
  have hset : ∀ y : Nat, locL (q.1.set r ⟨true, q.2⟩) (y : Int) = if y = r then ⟨true, q.2⟩ else locL q.1 (y : Int) := fun y => locL_set (by omega)
  refine ⟨by simp [hl], fun y hy => ?_, fun y hy hu => ?_, fun y z hy hz hne hu hv => ?_, by show _ ≤ q.2 + 1 ∧ q.2 + 1 ≤ _; omega⟩
  ·have : y ≠ r := fun e => by rw [e, hsp] at hy; rcases hy with q | q; omega; cases q
   show locL (q.1.set r _) _ = _
   rw [hset, if_neg this]
   exact hq.k y (by rcases hy with q | q; exact .inl (by omega); exact .inr q)
  ·show ∃ j, locL (q.1.set r _) _ = _ ∧ _ ∧ j < q.2 + 1
   rw [hset]
   by_cases e : y = r
   ·exact ⟨q.2, by rw [if_pos e], hb.1, by omega⟩
   ·rw [if_neg e]
    obtain ⟨j, h1, h2, h3⟩ := hq.s y (by omega) hu
    exact ⟨j, h1, h2, by omega⟩
  ·show (locL (q.1.set r _) _).Index ≠ (locL (q.1.set r _) _).Index
   rw [hset, hset]
   by_cases e : y = r
   ·rw [if_pos e, if_neg (by omega)]
    obtain ⟨j, h1, h2, h3⟩ := hq.s z (by omega) hv
    rw [h1]; show q.2 ≠ j; omega
   ·rw [if_neg e]
    by_cases e2 : z = r
    ·rw [if_pos e2]
     obtain ⟨j, h1, h2, h3⟩ := hq.s y (by omega) hu
     rw [h1]; show j ≠ q.2; omega
    ·rw [if_neg e2]; exact hq.d y z (by omega) (by omega) hne hu hv
theorem c4_fin {c : VFunc} (h : Vd c) : C4 c (fin3 c).1.sp (fin3 c).2 c.Regs.toNat (fin4 c) := by
 have h3 := c3_fin h
 unfold fin4 ph4
 exact foldl_rng (P := C4 c (fin3 c).1.sp (fin3 c).2) c.Regs.toNat (fun i a hi ha => ha.step hi) ⟨h3.l, fun y hy => rfl, fun y hy => by omega, fun y z hy => by omega, by show _ ≤ c.Params ∧ c.Params ≤ _; omega⟩
structure Alc (c : VFunc) (a : Allocation) : Prop where
 l : a.Locations.length = c.Regs.toNat
 s : c.Params ≤ a.Slots ∧ a.Slots ≤ c.Params + c.Regs
 n : (a.Spills.map Spill.Reg).Nodup
 g : ∀ x, x ∈ a.Spills → 0 ≤ x.Reg ∧ x.Reg < c.Regs
 i : ∀ r : Int, 0 ≤ r → r < c.Regs → ((locA a r).InSlot = true ↔ r ∈ a.Spills.map Spill.Reg)
 k : ∀ r : Int, 0 ≤ r → r < c.Regs → slotT c a (locA a r) = true
 d : ∀ (r : Nat) (y : Int), r < c.Regs.toNat → y ∈ IF c r → sameL (locA a (r : Int)) (locA a y) = false
 w : ∀ x, x ∈ AC c → (locA a x).InSlot = true
 j : ∀ pre x post, a.Spills = pre ++ x :: post → Jst c (fin3 c).1.sp a.Locations c.Regs.toNat (pre.map Spill.Reg) x
theorem alc {c : VFunc} (h : Vd c) : Alc c (ALa c) := by
 have h3 := c3_fin h
 have h4 := c4_fin h
 have g := gr_IF h
 have hr0 := h.h.r0
 have hloc : ∀ y : Nat, locA (ALa c) (y : Int) = locL (fin4 c).1 (y : Int) := fun y => rfl
 have hun : ∀ y : Nat, y < c.Regs.toNat → isSp (fin3 c).1.sp (y : Int) = false → ∃ m : Nat, m < 5 ∧ locA (ALa c) (y : Int) = ⟨false, (m : Int)⟩ := fun y hy hu => by
  obtain ⟨m, h5, h6⟩ := h3.k y hy hu
  exact ⟨m, h5, by rw [hloc, h4.k y (.inr hu)]; exact h6⟩
 have hin : ∀ y : Nat, y < c.Regs.toNat → isSp (fin3 c).1.sp (y : Int) = true → ∃ j, locA (ALa c) (y : Int) = ⟨true, j⟩ ∧ c.Params ≤ j ∧ j < (ALa c).Slots := fun y hy hu => h4.s y hy hu
 have hnat : ∀ r : Int, 0 ≤ r → ((r.toNat : Nat) : Int) = r := fun r hr => by omega
 have hi : ∀ r : Int, 0 ≤ r → r < c.Regs → ((locA (ALa c) r).InSlot = true ↔ r ∈ (ALa c).Spills.map Spill.Reg) := fun r r0 r1 => by
  rw [show (ALa c).Spills = (fin3 c).1.ss from rfl, ← h3.s.m r r0]
  cases hu : isSp (fin3 c).1.sp r with
  | true =>
   obtain ⟨j, e, _⟩ := hin r.toNat (by omega) (by rw [hnat r r0]; exact hu)
   rw [hnat r r0] at e
   rw [e]
  | false =>
   obtain ⟨m, _, e⟩ := hun r.toNat (by omega) (by rw [hnat r r0]; exact hu)
   rw [hnat r r0] at e
   rw [e]
 refine ⟨h4.l, ?_, h3.s.d, h3.s.g, hi, fun r r0 r1 => ?_, fun r y hr hy => ?_, fun x hx => ?_, ?_⟩
 ·have hb := h4.b
  show c.Params ≤ (fin4 c).2 ∧ (fin4 c).2 ≤ _
  omega
 ·unfold slotT
  cases hu : isSp (fin3 c).1.sp r with
  | true =>
   obtain ⟨j, e, h5, h6⟩ := hin r.toNat (by omega) (by rw [hnat r r0]; exact hu)
   rw [hnat r r0] at e
   rw [e, if_pos rfl]
   show (!(decide (j < c.Params) || decide (j ≥ (ALa c).Slots))) = true
   simp; omega
  | false =>
   obtain ⟨m, h5, e⟩ := hun r.toNat (by omega) (by rw [hnat r r0]; exact hu)
   rw [hnat r r0] at e
   rw [e, if_neg (by simp)]
   show (!(decide ((m : Int) < 0) || decide ((m : Int) ≥ 5))) = true
   simp; omega
 ·have hyr := (g.s r).r y hy
  have hne : r ≠ y.toNat := fun e => g.i r (by rw [e, hnat y hyr.1]; rw [e] at hy; exact hy)
  have hys : ((y.toNat : Nat) : Int) ∈ IF c r := by rw [hnat y hyr.1]; exact hy
  rw [← hnat y hyr.1]
  unfold sameL
  cases hu : isSp (fin3 c).1.sp (r : Int) with
  | true =>
   obtain ⟨j, e, _⟩ := hin r hr hu
   cases hv : isSp (fin3 c).1.sp ((y.toNat : Nat) : Int) with
   | true =>
    have := h4.d r y.toNat hr (by omega) hne hu hv
    rw [← hloc, ← hloc] at this
    have e2 : ((locA (ALa c) (r : Int)).Index == (locA (ALa c) ((y.toNat : Nat) : Int)).Index) = false := by simpa using this
    rw [e2, Bool.and_false]
   | false =>
    obtain ⟨m, _, e2⟩ := hun y.toNat (by omega) hv
    rw [e, e2]; rfl
  | false =>
   obtain ⟨m, h5, e⟩ := hun r hr hu
   cases hv : isSp (fin3 c).1.sp ((y.toNat : Nat) : Int) with
   | true =>
    obtain ⟨j, e2, _⟩ := hin y.toNat (by omega) hv
    rw [e, e2]; rfl
   | false =>
    have := h3.d y.toNat r (by omega) hr hv hu hys
    rw [← h4.k r (.inr hu), ← h4.k y.toNat (.inr hv), ← hloc, ← hloc] at this
    have e2 : ((locA (ALa c) (r : Int)).Index == (locA (ALa c) ((y.toNat : Nat) : Int)).Index) = false := by
     rw [beq_eq_false_iff_ne]; exact fun q => this q.symm
    rw [e2, Bool.and_false]
 ·have hxr := (ev_racross h).2.r x hx
  rw [hi x hxr.1 hxr.2, show (ALa c).Spills = (fin3 c).1.ss from rfl, ← h3.s.m x hxr.1]
  exact h3.a x hx
 ·refine h3.j.mono (Nat.le_refl _) fun y h0 h1 h2 => ⟨h2, ?_⟩
  have := h4.k y.toNat (.inr (by rw [hnat y h0]; exact h2))
  rw [hnat y h0] at this
  exact this
end Go.Proofs.YtocfnpnnbmicmaaDoor.Tc
end
section
set_option linter.unusedVariables false
set_option linter.unusedSimpArgs false
namespace Go.Proofs.YtocfnpnnbmicmaaDoor.Tc
open Go
theorem op13 : (opI 13).ReadsA = false ∧ (opI 13).ReadsB = false ∧ (opI 13).WritesA = true ∧ alw 13 = true := ⟨by kernel_rfl, by kernel_rfl, by kernel_rfl, by kernel_rfl⟩
theorem op38 : (opI 38).ReadsA = false ∧ (opI 38).ReadsB = false ∧ alw 38 = true := ⟨by kernel_rfl, by kernel_rfl, by kernel_rfl⟩
theorem rd_init {v : VInstr} (h : v.Instr.Op = 13 ∨ v.Instr.Op = 38) : rd v = [] ∧ wr v = [v.Instr.A] := by
 unfold rd wr rdRaw
 rcases h with h | h
 ·rw [h, op13.1, op13.2.1, op13.2.2.1, op13.2.2.2]; exact ⟨rfl, rfl⟩
 ·rw [h, op38.1, op38.2.1, op38.2.2]
  refine ⟨rfl, ?_⟩
  have : ((opI 38).WritesA || ((38 : Int) == 6) || ((38 : Int) == 38)) = true := by simp
  rw [this]; rfl
theorem init_foldr {vs : List VInstr} {l : List Int} {x : Int} (h : ∀ v, v ∈ vs → rd v = []) (hx : x ∈ vs.foldr tr l) : ∀ v, v ∈ vs → x ∉ wr v := by
 induction vs with
 | nil => intro v hv; simp at hv
 | cons w vs ih =>
  rcases mem_tr.1 hx with ⟨h1, h2⟩ | h1
  ·intro v hv
   rcases List.mem_cons.1 hv with e | e
   ·rw [e]; exact h2
   ·exact ih (fun v hv => h v (by simp [hv])) h1 v e
  ·rw [h w (by simp)] at h1; simp at h1
theorem LI0_nil {c : VFunc} (h : Vd c) {pre rest : List VInstr} (e : (bk c 0).Instrs = pre ++ rest) (hr : ∀ v, v ∈ pre → rd v = []) (hw : ∀ x : Int, 0 ≤ x → x < c.Regs → ∃ v, v ∈ pre ∧ x ∈ wr v) : LI c 0 = [] := by
 have hb := h.h.b0
 refine List.eq_nil_iff_forall_not_mem.2 fun x hx => ?_
 have hreg := (RS.LI h 0).r x hx
 rw [LI_eq h (by omega)] at hx
 unfold blkIn at hx
 rw [e, List.foldr_append] at hx
 obtain ⟨v, hv, hxw⟩ := hw x hreg.1 hreg.2
 exact init_foldr hr hx v hv hxw
theorem iv0_rd {p : Int} {r : Nat} : rd (iv0 p r) = [] ∧ wr (iv0 p r) = [(r : Int)] := rd_init (v := iv0 p r) (by
 show (if (r : Int) < p then (38 : Int) else 13) = 13 ∨ (if (r : Int) < p then (38 : Int) else 13) = 38
 split
 ·exact .inr rfl
 ·exact .inl rfl)
theorem VF.li0 {p : Int} {c : VFunc} (h : VF p c) : LI c 0 = [] := by
 have h0 := h.p0
 have hr := h.hr
 refine LI0_nil h.vd (pre := (List.range (9 + p.toNat)).map (iv0 p)) (rest := []) (by rw [h.b0]; simp [firstB]) (fun v hv => ?_) fun x hx0 hx1 => ?_
 ·obtain ⟨r, _, rfl⟩ := List.mem_map.1 hv
  exact iv0_rd.1
 ·refine ⟨iv0 p x.toNat, List.mem_map.2 ⟨x.toNat, List.mem_range.2 (by omega), rfl⟩, ?_⟩
  rw [iv0_rd.2]; simp; omega
end Go.Proofs.YtocfnpnnbmicmaaDoor.Tc
end
section
set_option linter.unusedVariables false
set_option linter.unusedSimpArgs false
namespace Go.Proofs.YtocfnpnnbmicmaaDoor.Tc
open Go
theorem al_slots {c : VFunc} (h : Vd c) : c.Params ≤ (fin4 c).2 ∧ (fin4 c).2 ≤ c.Params + c.Regs := (alc h).s
theorem al_ok {c : VFunc} (h : Vd c) (h0 : LI c 0 = []) (hs : c.Params + c.Regs ≤ 3000) : AL c = (ALa c, 0) := by
 have := al_slots h
 unfold AL
 rw [h0, if_neg (by simp), if_neg (by omega)]
theorem VF.al {p : Int} {c : VFunc} (h : VF p c) : AL c = (ALa c, 0) := al_ok h.vd h.li0 (by have := h.hp; have := h.hr; have := h.p2; omega)
end Go.Proofs.YtocfnpnnbmicmaaDoor.Tc
end
section
set_option linter.unusedVariables false
set_option linter.unusedSimpArgs false
namespace Go.Proofs.YtocfnpnnbmicmaaDoor.Tc
open Go
abbrev Memo := List (Int × List (List Int))
def MP (c : VFunc) (m : Memo) : Prop := ∀ k y, mget m k = some y → y = LPs c k.toNat
theorem mget_put {m : Memo} {k k' : Int} {y : List (List Int)} (h : mget m k = none) : mget (mput m k y) k' = if k' = k then some y else mget m k' := by
 have ha : m.any (fun p => p.1 == k) = false := by
  rw [Bool.eq_false_iff]
  intro q
  obtain ⟨p, hp, hk⟩ := List.any_eq_true.1 q
  unfold mget at h
  rw [Option.map_eq_none_iff, List.find?_eq_none] at h
  exact h p hp hk
 unfold mput
 rw [ha, if_neg (by simp)]
 unfold mget at h ⊢
 rw [List.find?_append]
 by_cases e : k' = k
 ·subst e
  rw [if_pos rfl]
  rw [Option.map_eq_none_iff] at h
  rw [h]; simp
 ·rw [if_neg e]
  have : (k == k') = false := by simpa using Ne.symm e
  cases m.find? (fun p => p.1 == k') <;> simp [List.find?_cons, this]
theorem MP.put {c : VFunc} {m : Memo} (h : MP c m) {k : Nat} (hk : mget m (k : Int) = none) : MP c (mput m (k : Int) (LPs c k)) := fun k' y hy => by
 rw [mget_put hk] at hy
 by_cases e : k' = (k : Int)
 ·subst e; rw [if_pos rfl] at hy; exact (Option.some.inj hy).symm
 ·rw [if_neg e] at hy; exact h k' y hy
theorem lp_sm {c : VFunc} (h : Vd c) {k : Nat} (hk : k < c.Blocks.length) (i : Nat) : RS c (lp (bk c k) (LO c k) i) ∧ Sm (lp (bk c k) (LO c k) i) := by
 have hl := RS.lp (h.iv hk) (h.e hk) (RS.LO h k) i
 have := hl.len h
 exact ⟨hl, by unfold Sm; omega⟩
structure HS (c : VFunc) (e : List Int) (sp : List Bool) : Prop where
 l : sp.length = c.Regs.toNat
 b : ∀ y : Int, 0 ≤ y → y < c.Regs → isSp sp y = e.contains y
theorem HS.next {c : VFunc} {e : List Int} {sp : List Bool} (h : HS c e sp) {r : Int} (h0 : 0 ≤ r) (h1 : r < c.Regs) : HS c (e ++ [r]) (sp.set r.toNat true) := ⟨by simp [h.l], fun y hy0 hy1 => by
 have hl := h.l
 rw [isSp_set h0 (by omega) hy0, h.b y hy0 hy1, Bool.eq_iff_iff]
 simp⟩
end Go.Proofs.YtocfnpnnbmicmaaDoor.Tc
end
section
set_option linter.unusedVariables false
set_option linter.unusedSimpArgs false
namespace Go.Proofs.YtocfnpnnbmicmaaDoor.Tc
open Go
theorem LPs_len (c : VFunc) (k : Nat) : (LPs c k).length = (bk c k).Instrs.length + 1 := by simp [LPs, lps]
end Go.Proofs.YtocfnpnnbmicmaaDoor.Tc
end
section
set_option linter.unusedVariables false
set_option linter.unusedSimpArgs false
namespace Go.Proofs.YtocfnpnnbmicmaaDoor.Tc
open Go
def OkE {α : Type} (f : Nat → Nat → Option α) (P : α → Prop) : Prop := ∃ x, Ev f x ∧ P x
section
variable {α β S R : Type}
theorem OkE.ev {f : Nat → Nat → Option α} {P : α → Prop} {x : α} (h : Ev f x) (hp : P x) : OkE f P := ⟨x, h, hp⟩
theorem OkE.some {P : α → Prop} (x : α) (hp : P x) : OkE (fun _ _ => some x) P := ⟨x, Ev.some x, hp⟩
theorem OkE.of {P : α → Prop} {o : Option α} {x : α} (h : o = Option.some x) (hp : P x) : OkE (fun _ _ => o) P := ⟨x, Ev.of h, hp⟩
theorem OkE.bind {f : Nat → Nat → Option α} {g : Nat → Nat → α → Option β} {P : α → Prop} {Q : β → Prop} (h : OkE f P) (k : ∀ x, P x → OkE (fun K k => g K k x) Q) : OkE (fun K k => (f K k).bind (g K k)) Q := by
 obtain ⟨x, h1, h2⟩ := h
 obtain ⟨y, h3, h4⟩ := k x h2
 exact ⟨y, Ev.bind h1 h3, h4⟩
theorem OkE.bindO {o : Option α} {g : Nat → Nat → α → Option β} {x : α} {Q : β → Prop} (h : o = Option.some x) (k : OkE (fun K k => g K k x) Q) : OkE (fun K k => o.bind (g K k)) Q := by
 obtain ⟨y, h3, h4⟩ := k
 exact ⟨y, Ev.bindO h h3, h4⟩
theorem OkE.cnd {b : Bool} {f g : Nat → Nat → Option α} {Q : α → Prop} (h1 : b = true → OkE f Q) (h2 : b = false → OkE g Q) : OkE (fun K k => Tc.cnd b (f K k) (g K k)) Q := by
 cases b with
 | true => exact h1 rfl
 | false => exact h2 rfl
theorem OkE.mono {f : Nat → Nat → Option α} {P Q : α → Prop} (h : OkE f P) (k : ∀ x, P x → Q x) : OkE f Q := by
 obtain ⟨x, h1, h2⟩ := h
 exact ⟨x, h1, k x h2⟩
theorem OkE.loop {F : Nat → Nat → S → Option R} {s : S} {P : R → Prop} (h : OkE (fun K k => F K k s) P) : OkE (fun K _ => F K K s) P := by
 obtain ⟨x, h1, h2⟩ := h
 exact ⟨x, Ev.loop h1, h2⟩
theorem OkE.step {F : Nat → Nat → S → Option R} {s : S} {B : Nat → Nat → Option R} {P : R → Prop} (he : ∀ K k, F K (k + 1) s = B K k) (h : OkE B P) : OkE (fun K k => F K k s) P := by
 obtain ⟨x, h1, h2⟩ := h
 exact ⟨x, Ev.step he h1, h2⟩
theorem OkE.sq {f : Nat → Nat → Option (S ⊕ R)} {g : Nat → Nat → S → Option R} {P : S → Prop} {Q : R → Prop} (h : OkE f (fun x => match x with | .inl s => P s | .inr r => Q r)) (k : ∀ s, P s → OkE (fun K k => g K k s) Q) : OkE (fun K k => Tc.sq (f K k) (g K k)) Q := by
 obtain ⟨x, h1, h2⟩ := h
 cases x with
 | inl s => obtain ⟨y, h3, h4⟩ := k s h2; exact ⟨y, Ev.sql h1 h3, h4⟩
 | inr r => exact ⟨r, Ev.sqr h1, h2⟩
theorem OkE.out {f : Nat → Nat → Option R} {P : S ⊕ R → Prop} {Q : R → Prop} (h : OkE f Q) (k : ∀ r, Q r → P (.inr r)) : OkE (fun K k => (Tc.out (f K k) : Option (S ⊕ R))) P := by
 obtain ⟨x, h1, h2⟩ := h
 exact ⟨.inr x, Ev.out h1, k x h2⟩
theorem OkE.inn {P : S ⊕ R → Prop} (s : S) (h : P (.inl s)) : OkE (fun _ _ => (Tc.inn s : Option (S ⊕ R))) P := ⟨.inl s, Ev.inn s, h⟩
end
theorem OkE.pick {β : Type} (a : Int) {m : Int} (h0 : 0 < m) (h1 : m ≤ 1000000000000) {g : Nat → Nat → Int → Option β} {Q : β → Prop} (k : ∀ r, 0 ≤ r → r < m → OkE (fun K k => g K k r) Q) : OkE (fun K k => (keep_Pick a m).bind (g K k)) Q := by
 obtain ⟨r, e, h2, h3⟩ := pick_ok a h0 h1
 exact OkE.bindO e (k r h2 h3)
theorem OkE.idx {α β : Type} {l : List α} {i : Int} (h0 : 0 ≤ i) (h1 : i < l.length) {g : Nat → Nat → α → Option β} {Q : β → Prop} (k : ∀ y, y ∈ l → OkE (fun K k => g K k y) Q) : OkE (fun K k => (Tc.idx l i).bind (g K k)) Q := by
 have hlt : i.toNat < l.length := by omega
 have := idx_get hlt
 rw [show ((i.toNat : Nat) : Int) = i by omega] at this
 exact OkE.bindO this (k _ (List.getElem_mem hlt))
end Go.Proofs.YtocfnpnnbmicmaaDoor.Tc
end
section
set_option linter.unusedVariables false
set_option linter.unusedSimpArgs false
namespace Go.Proofs.YtocfnpnnbmicmaaDoor.Tc
open Go
structure Bd (c : VFunc) : Prop where
 b : c.Blocks.length ≤ 17592186044000
 i : ∀ b, b ∈ c.Blocks → b.Instrs.length ≤ 2199023255552
theorem Bd.sm {c : VFunc} (h : Bd c) : SmF c := ⟨h.b, fun b hb => by have := h.i b hb; unfold Sm; omega⟩
theorem Bd.vd {c : VFunc} (h : Bd c) (hv : validB c = true) : Vd c := ⟨hv, h.i⟩
theorem VF.bd {p : Int} {c : VFunc} (h : VF p c) : Bd c := ⟨by have := h.len; omega, fun b hb => by
 obtain ⟨k, hk, rfl⟩ := mem_bk hb
 have := h.ilen hk; omega⟩
theorem ev_sameL {a : List (List Int)} (h1 : a.length ≤ 17592186044000) (h2 : ∀ l, l ∈ a → Sm l) : Ev (fun K _ => ref32_SameLists K a a) true := by
 have e1 : Ev (fun K k => ref32_SameLists_l1 K a a k 0) (if a.all (fun _ => true) then .inl () else .inr false) :=
  ev_all a (fun K k i => ref32_SameLists_l1 K a a k i) (fun _ => true) false (Ev.step (fun K k => rfl) (Ev.f (by simp) (Ev.inn ())))
   (fun i x hx hi => by
    have e := ev_same32 (b := x) (h2 x (List.mem_of_getElem? hx))
    rw [decide_eq_true (rfl : x = x)] at e
    refine ⟨fun _ r hr => Ev.step (fun K k => rfl) (Ev.t (by simpa using hi) (Ev.bindO (idx_eq hx) (Ev.bindO (idx_eq hx) (Ev.bind e (Ev.f rfl ?_))))), fun h => by cases h⟩
    rw [w64_succ (i := i) (by omega)]; exact hr)
 have : a.all (fun _ => true) = true := by simp
 rw [this] at e1
 unfold ref32_SameLists
 exact Ev.f (by simp) (Ev.sql (Ev.loop e1) (Ev.some _))
theorem ev_sameI {a : List Int} (h : Sm a) : Ev (fun K _ => ref22_SameInts K a a) true := by
 have e := ev_same (b := a) h
 rw [decide_eq_true (rfl : a = a)] at e
 exact e
theorem map_sm {c : VFunc} (h : Vd c) {n : Nat} {f : Nat → List Int} (hf : ∀ k, RS c (f k)) : ∀ l, l ∈ (List.range n).map f → Sm l := fun l hl => by
 obtain ⟨k, _, rfl⟩ := List.mem_map.1 hl
 have := (hf k).len h
 unfold Sm; omega
theorem LPs_sm {c : VFunc} (h : Vd c) {k : Nat} (hk : k < c.Blocks.length) : ∀ l, l ∈ LPs c k → Sm l := fun l hl => by
 unfold LPs lps at hl
 obtain ⟨i, _, rfl⟩ := List.mem_map.1 hl
 exact (lp_sm h hk i).2
theorem ev_pacross0 {c : VFunc} (h : SmF c) (hv : validB c = false) : Ev (fun K _ => liveness_AcrossCalls K c) [] := by
 unfold liveness_AcrossCalls
 exact Ev.bind (ev_vvalid h) (Ev.t (by rw [hv]; rfl) (Ev.some _))
theorem ev_racross0 {c : VFunc} (h : SmF c) (hv : validB c = false) : Ev (fun K _ => ref32_AcrossCalls K c) [] := by
 unfold ref32_AcrossCalls
 refine Ev.bind (Ev.loop (r := []) (Ev.step (fun K k => rfl) (Ev.bind (x := false) ?_ (Ev.f rfl (Ev.some _))))) (Ev.some _)
 exact Ev.cnd (fun _ => Ev.bind (ev_rvalid h) ((Ev.some _).cast hv)) (fun _ => Ev.some _)
theorem both_blocks {c : VFunc} (h : Bd c) : ∃ a b, Ev (fun K _ => liveness_Blocks K c) (a, b) ∧ Ev (fun K _ => ref32_LiveBlocks K c) (a, b) ∧ Ev (fun K _ => ref32_SameLists K a a) true ∧ Ev (fun K _ => ref32_SameLists K b b) true := by
 cases hv : validB c with
 | false => exact ⟨[], [], ev_pblocks0 h.sm hv, ev_rblocks0 h.sm hv, ev_sameL (by simp) (fun l hl => by simp at hl), ev_sameL (by simp) (fun l hl => by simp at hl)⟩
 | true =>
  have v := h.vd hv
  have hb1 := v.h.b1
  exact ⟨LIs c, LOs c, ev_pblocks v, ev_rblocks v, ev_sameL (by rw [LIs_len]; omega) (map_sm v (RS.LI v)), ev_sameL (by rw [LOs_len]; omega) (map_sm v (RS.LO v))⟩
theorem both_across {c : VFunc} (h : Bd c) : ∃ a, Ev (fun K _ => liveness_AcrossCalls K c) a ∧ Ev (fun K _ => ref32_AcrossCalls K c) a ∧ Ev (fun K _ => ref22_SameInts K a a) true := by
 cases hv : validB c with
 | false => exact ⟨[], ev_pacross0 h.sm hv, ev_racross0 h.sm hv, ev_sameI (by simp [Sm])⟩
 | true =>
  have v := h.vd hv
  have hl := (ev_racross v).2.len v
  exact ⟨AC c, ev_pacross v, (ev_racross v).1, ev_sameI (by unfold Sm; omega)⟩
theorem both_points {c : VFunc} (h : Bd c) (k : Int) : ∃ a, Ev (fun K _ => liveness_Points K c k) a ∧ Ev (fun K _ => ref32_LivePoints K c k) a ∧ Ev (fun K _ => ref32_SameLists K a a) true := by
 by_cases hk : validB c = true ∧ 0 ≤ k ∧ k < (c.Blocks.length : Int)
 ·have v := h.vd hk.1
  obtain ⟨k, rfl⟩ : ∃ n : Nat, k = (n : Int) := ⟨k.toNat, by omega⟩
  have hkl : k < c.Blocks.length := by omega
  have hlen := v.len hkl
  exact ⟨LPs c k, ev_ppoints v hkl, ev_rpoints v hkl, ev_sameL (by rw [LPs_len]; omega) (LPs_sm v hkl)⟩
 ·exact ⟨[], ev_ppoints0 h.sm hk, ev_rpoints0 h.sm hk, ev_sameL (by simp) (fun l hl => by simp at hl)⟩
structure BS (bs : List Block) : Prop where
 l : bs.length ≤ 1000
 i : ∀ b, b ∈ bs → b.Instrs.length ≤ 1000
theorem BS.set {bs : List Block} (h : BS bs) (m : Nat) {b : Block} (hb : b.Instrs.length ≤ 1000) : BS (bs.set m b) := ⟨by simp; exact h.l, fun x hx => by
 rcases List.mem_or_eq_of_mem_set hx with q | q
 ·exact h.i x q
 ·rw [q]; exact hb⟩
theorem BS.bd {P R : Int} {bs : List Block} (h : BS bs) : Bd ⟨P, R, bs⟩ := ⟨by have := h.l; show bs.length ≤ _; omega, fun b hb => by have := h.i b hb; omega⟩
theorem word_e {β : Type} (a b : Int) {g : Nat → Nat → Int → Option β} {Q : β → Prop} (k : ∀ r, OkE (fun K k => g K k r) Q) : OkE (fun K k => (keep_Word a b).bind (g K k)) Q := by
 obtain ⟨r, e⟩ := word_ok a b
 exact OkE.bindO e (k r)
theorem mutA_ok {P R : Int} {bs : List Block} {m : Int} {b : Block} {j : Int} {v : VInstr} {n k : Int} (h : BS bs) (hb : b.Instrs.length ≤ 1000) (hv : v.Args.length ≤ 17592186044000) : OkE (fun _ _ => mutA P R bs m b j v n k) Bd := by
 have hl := h.l
 have s : ∀ {is : List VInstr} {e r t f : Int}, is.length ≤ 1000 → ∀ P R, Bd ⟨P, R, bs.set m.toNat ⟨is, e, r, t, f⟩⟩ := fun hi P R => (h.set m.toNat (b := ⟨_, _, _, _, _⟩) hi).bd
 unfold mutA
 refine OkE.cnd (fun _ => OkE.some _ (s hb _ _)) fun _ => OkE.cnd (fun _ => OkE.some _ (s hb _ _)) fun _ => OkE.cnd (fun _ => OkE.some _ (s hb _ _)) fun _ => OkE.cnd (fun _ => OkE.some _ (s hb _ _)) fun _ => OkE.cnd (fun _ => OkE.some _ (s hb _ _)) fun _ => OkE.cnd (fun _ => OkE.some _ (s hb _ _)) fun _ => ?_
 refine OkE.cnd (fun _ => OkE.some _ (s (by simpa using hb) _ _)) fun _ => OkE.cnd (fun _ => OkE.some _ (s (by simpa using hb) _ _)) fun _ => OkE.cnd (fun _ => OkE.some _ (s (by simpa using hb) _ _)) fun _ => OkE.cnd (fun _ => OkE.some _ (s (by simpa using hb) _ _)) fun _ => ?_
 refine OkE.cnd (fun _ => word_e _ _ fun u => OkE.some _ (s (by simpa using hb) _ _)) fun _ => OkE.cnd (fun _ => OkE.bindO (app_eq (by simp; omega) (by simp; omega)) (OkE.bindO (app_eq (by simp; omega) (by simp; omega)) (OkE.some _ (s (by simpa using hb) _ _)))) fun _ => OkE.cnd (fun _ => ?_) fun _ => OkE.some _ (s hb _ _)
 have hB := h.set m.toNat (b := ⟨b.Instrs, b.End, b.Reg, b.Target, b.Else⟩) hb
 generalize bs.set m.toNat ⟨b.Instrs, b.End, b.Reg, b.Target, b.Else⟩ = B at hB
 have hBl := hB.l
 obtain ⟨q, hq, hq2⟩ : ∃ q : Nat, (if (0 : Int) < (if (B.length : Int) < n then (B.length : Int) else n) then (if (B.length : Int) < n then (B.length : Int) else n) else 0) = (q : Int) ∧ q ≤ B.length := by
  refine ⟨(if (0 : Int) < (if (B.length : Int) < n then (B.length : Int) else n) then (if (B.length : Int) < n then (B.length : Int) else n) else 0).toNat, ?_, ?_⟩
  ·split
   ·split <;> omega
   ·split <;> omega
  ·split
   ·split <;> omega
   ·omega
 rw [hq]
 exact OkE.bindO (subHi_eq hq2) (OkE.some _ ⟨by show (B.take q).length ≤ _; simp; omega, fun x hx => by have := hB.i x (List.mem_of_mem_take hx); omega⟩)
theorem mutB_ok {P R : Int} {bs : List Block} {m : Int} {b : Block} {n k : Int} (h : BS bs) (hb : b.Instrs.length ≤ 1000) : OkE (fun _ _ => mutB P R bs m b n k) Bd := by
 have hl := h.l
 have s : ∀ {is : List VInstr} {e r t f : Int}, is.length ≤ 1000 → ∀ P R, Bd ⟨P, R, bs.set m.toNat ⟨is, e, r, t, f⟩⟩ := fun hi P R => (h.set m.toNat (b := ⟨_, _, _, _, _⟩) hi).bd
 unfold mutB
 refine OkE.cnd (fun _ => OkE.some _ (s hb _ _)) fun _ => OkE.cnd (fun _ => OkE.some _ (s hb _ _)) fun _ => OkE.cnd (fun _ => OkE.some _ (s hb _ _)) fun _ => OkE.cnd (fun _ => OkE.some _ (s hb _ _)) fun _ => OkE.cnd (fun _ => OkE.some _ (s hb _ _)) fun _ => OkE.cnd (fun _ => OkE.some _ (s hb _ _)) fun _ => ?_
 refine OkE.cnd (fun _ => OkE.some _ (s hb _ _)) fun _ => OkE.cnd (fun _ => OkE.some _ (s hb _ _)) fun _ => OkE.cnd (fun _ => OkE.some _ (s hb _ _)) fun _ => OkE.cnd (fun _ => OkE.some _ (s hb _ _)) fun _ => ?_
 refine OkE.cnd (fun _ => word_e _ _ fun u => OkE.some _ (s hb _ _)) fun _ => OkE.cnd (fun _ => OkE.bindO (app_eq (by simp) (by simp)) (OkE.bindO (app_eq (by simp) (by simp)) (OkE.some _ (s hb _ _)))) fun _ => OkE.cnd (fun _ => ?_) fun _ => OkE.some _ (s hb _ _)
 have hB := h.set m.toNat (b := ⟨b.Instrs, b.End, b.Reg, b.Target, b.Else⟩) hb
 generalize bs.set m.toNat ⟨b.Instrs, b.End, b.Reg, b.Target, b.Else⟩ = B at hB
 have hBl := hB.l
 obtain ⟨q, hq, hq2⟩ : ∃ q : Nat, (if (0 : Int) < (if (B.length : Int) < n then (B.length : Int) else n) then (if (B.length : Int) < n then (B.length : Int) else n) else 0) = (q : Int) ∧ q ≤ B.length := by
  refine ⟨(if (0 : Int) < (if (B.length : Int) < n then (B.length : Int) else n) then (if (B.length : Int) < n then (B.length : Int) else n) else 0).toNat, ?_, ?_⟩
  ·split
   ·split <;> omega
   ·split <;> omega
  ·split
   ·split <;> omega
   ·omega
 rw [hq]
 exact OkE.bindO (subHi_eq hq2) (OkE.some _ ⟨by show (B.take q).length ≤ _; simp; omega, fun x hx => by have := hB.i x (List.mem_of_mem_take hx); omega⟩)
theorem next_e {β : Type} (d : Fullingkeep2Digits) {m : Int} (h0 : 0 < m) (h1 : m ≤ 1000000000000) {g : Nat → Nat → Int × Fullingkeep2Digits → Option β} {Q : β → Prop} (k : ∀ r, OkE (fun K k => g K k r) Q) : OkE (fun K k => (keep2_Digits_Next d m).bind (g K k)) Q := by
 obtain ⟨r, d', e, _⟩ := next_ok d h0 h1
 exact OkE.bindO e (k _)
theorem mut_vf {p : Int} {c : VFunc} (h : VF p c) (how at_ : Int) : OkE (fun K _ => keep2_MutateVFunc K c how at_) Bd := by
 have hl := h.len
 have hv := h.vd
 have hbs : BS c.Blocks := ⟨by omega, fun b hb => by
  obtain ⟨k, hk, rfl⟩ := mem_bk hb
  have := h.ilen hk; omega⟩
 have hargs : ∀ b, b ∈ c.Blocks → ∀ v, v ∈ b.Instrs → v.Args.length ≤ 6 := fun b hb v hv' => by
  obtain ⟨k, hk, rfl⟩ := mem_bk hb
  exact (hv.i hk hv').n
 unfold keep2_MutateVFunc
 have l1 : OkE (fun K k => keep2_MutateVFunc_l1 K c k (0, [])) (fun bs => (BS bs ∧ bs.length = c.Blocks.length) ∧ ∀ b, b ∈ bs → ∀ v, v ∈ b.Instrs → v.Args.length ≤ 6) := by
  have key : ∀ (n i : Nat) (bs : List Block), i + n = c.Blocks.length → bs.length = i → BS bs → (∀ b, b ∈ bs → ∀ v, v ∈ b.Instrs → v.Args.length ≤ 6) → OkE (fun K k => keep2_MutateVFunc_l1 K c k ((i : Int), bs)) (fun bs => (BS bs ∧ bs.length = c.Blocks.length) ∧ ∀ b, b ∈ bs → ∀ v, v ∈ b.Instrs → v.Args.length ≤ 6) := by
   intro n
   induction n with
   | zero =>
    intro i bs hi hb hbs' ha
    exact OkE.step (fun K k => rfl) (OkE.ev (Ev.f (by simp; omega) (Ev.some _)) ⟨⟨hbs', by show bs.length = _; omega⟩, ha⟩)
   | succ n ih =>
    intro i bs hi hb hbs' ha
    refine OkE.step (fun K k => rfl) (OkE.cnd (fun _ => OkE.idx (by omega) (by omega) fun y hy => ?_) (fun q => by have := of_decide_eq_false q; omega))
    have hyl := hbs.i y hy
    refine OkE.bindO (app_eq (by simp; omega) (by simp; omega)) (OkE.bindO (app_eq (by simp; omega) (by simp; omega)) ?_)
    rw [w64_succ (i := i) (by omega)]
    refine ih (i + 1) _ (by omega) (by simp [hb]) ⟨by simp; omega, fun x hx => ?_⟩ (fun x hx v hv' => ?_)
    ·rcases List.mem_append.1 hx with q | q
     ·exact hbs'.i x q
     ·rw [List.mem_singleton.1 q]; simpa using hyl
    ·rcases List.mem_append.1 hx with q | q
     ·exact ha x q v hv'
     ·rw [List.mem_singleton.1 q] at hv'; exact hargs y hy v (by simpa using hv')
  exact key c.Blocks.length 0 [] (by omega) rfl ⟨by simp, fun b hb => by simp at hb⟩ (fun b hb => by simp at hb)
 refine OkE.bind (OkE.loop l1) fun bs hbs2 => ?_
 obtain ⟨⟨hB, hBl⟩, hBa⟩ := hbs2
 refine OkE.pick at_ (m := (bs.length : Int)) (by omega) (by omega) fun m h0 h1 => OkE.idx h0 h1 fun b hb => ?_
 have hbl := hB.i b hb
 refine OkE.cnd (fun q => ?_) (fun q => ?_)
 ·have hpos : 0 < b.Instrs.length := by have := of_decide_eq_true q; omega
  refine OkE.pick _ (m := (b.Instrs.length : Int)) (by omega) (by omega) fun j h2 h3 => OkE.idx h2 h3 fun v hv' => next_e _ (by decide) (by decide) fun r6 => next_e _ (by decide) (by decide) fun r7 => ?_
  have := hBa b hb v hv'
  exact mutA_ok hB hbl (by omega)
 ·exact next_e _ (by decide) (by decide) fun r6 => next_e _ (by decide) (by decide) fun r7 => mutB_ok hB hbl
end Go.Proofs.YtocfnpnnbmicmaaDoor.Tc
end
section
set_option linter.unusedVariables false
set_option linter.unusedSimpArgs false
namespace Go.Proofs.YtocfnpnnbmicmaaDoor.Tc
open Go
theorem raw_bd4 {c : VFunc} (h : ok_VFunc c) : Bd c := by
 have h1 := h.2.2.1.1
 unfold reachBytes at h1
 refine ⟨by omega, fun b hb => ?_⟩
 have h2 := (h.2.2.2 b hb).1.1.1
 unfold reachBytes at h2
 omega
theorem mt4_l2 {y : VFunc} (h : Bd y) : Ev (fun K k => law33_LivenessMatches_l2 K y k (-1)) (.inl ()) := by
 have key : ∀ n : Nat, ∀ i : Int, -1 ≤ i → i + n = 12 → Ev (fun K k => law33_LivenessMatches_l2 K y k i) (.inl ()) := by
  intro n
  induction n with
  | zero =>
   intro i h0 hi
   refine Ev.step (fun K k => rfl) (Ev.f ?_ (Ev.inn ()))
   have : decide (i < 12) = false := by simp; omega
   rw [this, Bool.and_false]
  | succ n ih =>
   intro i h0 hi
   obtain ⟨t, t1, t2, t3⟩ := both_points h i
   refine Ev.step (fun K k => rfl) (Ev.cnd (fun _ => Ev.bind t1 (Ev.bind t2 (Ev.bind t3 (Ev.f rfl ?_)))) (fun _ => Ev.inn ()))
   rw [w64_id (by omega) (by omega)]
   exact ih (i + 1) (by omega) (by omega)
 exact key 13 (-1) (by omega) (by omega)
theorem mt4_l1 {a5 : Int} { a b d : VFunc} (h : ∀ x, x ∈ [a, b, d] → Bd x) : Ev (fun K k => law33_LivenessMatches_l1 K a a5 b d k 0) (.inl ()) := by
 have key : Ev (fun K k => law33_LivenessMatches_l1 K a a5 b d k ((0 : Nat) : Int)) (.inl ()) := by
  refine upto (P := fun i => Ev (fun K k => law33_LivenessMatches_l1 K a a5 b d k (i : Int)) (.inl ())) (n := 3) (Ev.step (fun K k => rfl) (Ev.f (by simp) (Ev.inn ()))) fun i hi ih => ?_
  have hlt : i < [a, b, d].length := by simpa using hi
  have hg := idx_get hlt
  have hy := h _ (List.getElem_mem hlt)
  generalize [a, b, d][i] = y at hg hy
  obtain ⟨b1, b2, t1, t2, t3, t4⟩ := both_blocks hy
  obtain ⟨u, u1, u2, u3⟩ := both_across hy
  obtain ⟨v, v1, v2, v3⟩ := both_points hy a5
  refine Ev.step (fun K k => rfl) (Ev.t (by simp; omega) (Ev.bindO hg (Ev.bind t1 (Ev.bind t2 (Ev.bind (x := false) (Ev.bind t3 (Ev.f rfl (Ev.bind t4 (Ev.f rfl (Ev.bind u1 (Ev.bind u2 (Ev.bind u3 (Ev.f rfl (Ev.bind v1 (Ev.bind v2 (Ev.bind v3 (Ev.some _)))))))))))) (Ev.f rfl (Ev.sql (Ev.loop (mt4_l2 hy)) ?_)))))))
  rw [w64_succ (i := i) (by omega)]; exact ih
 simpa using key
theorem pure4 (raw : VFunc) (l : List Int) (a2 a3 a4 a5 : Int) (hraw : ok_VFunc raw) (_ : lenOk 8 l ∧ ∀ x, x ∈ l → I64 x) (_ : I64 a2) (_ : I64 a3) (_ : I64 a4) (_ : I64 a5) : ∃ K, law33_LivenessMatches K raw l a2 a3 a4 a5 = some true := by
 refine Ev.fst ?_
 unfold law33_LivenessMatches
 refine Ev.cnd (fun _ => Ev.bind ev_ex3 (Ev.some _)) (fun _ => ?_)
 refine ev_head fun p c hc => ?_
 obtain ⟨d, ed, hd⟩ := mut_vf hc a3 a4
 refine Ev.bind ed (Ev.sql (Ev.loop (mt4_l1 fun x hx => ?_)) (Ev.bind ev_ex3 (Ev.some _)))
 simp only [List.mem_cons, List.not_mem_nil, or_false] at hx
 rcases hx with rfl | rfl | rfl
 ·exact raw_bd4 hraw
 ·exact hc.bd
 ·exact hd
end Go.Proofs.YtocfnpnnbmicmaaDoor.Tc
end
