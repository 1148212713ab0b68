/- Pure functions with fuel: what they come to once the fuel is enough. -/
import Derived.Test.YtocfnpnnbmicmaaDoorTypes
import Derived.IntWalk
set_option linter.unusedVariables false
set_option linter.unusedSimpArgs false
namespace Go.Proofs.YtocfnpnnbmicmaaDoor.Tc
open Go

/-- With enough fuel of both kinds f answers x. -/
def Ev {α : Type} (f : Nat → Nat → Option α) (x : α) : Prop := ∃ N, ∀ K k, N ≤ K → N ≤ k → f K k = some x
section
variable {α β S R : Type}
theorem Ev.of {o : Option α} {x : α} (h : o = some x) : Ev (fun _ _ => o) x := ⟨0, fun _ _ _ _ => h⟩
theorem Ev.some (x : α) : Ev (fun _ _ => some x) x := ⟨0, fun _ _ _ _ => rfl⟩
theorem Ev.cast {f : Nat → Nat → Option α} {x y : α} (h : Ev f x) (e : x = y) : Ev f y := e ▸ h
theorem Ev.bind {f : Nat → Nat → Option α} {g : Nat → Nat → α → Option β} {x : α} {y : β} (hf : Ev f x) (hg : Ev (fun K k => g K k x) y) : Ev (fun K k => (f K k).bind (g K k)) y := by
  obtain ⟨m, hm⟩ := hf
  obtain ⟨n, hn⟩ := hg
  exact ⟨max m n, fun K k hK hk => by show (f K k).bind (g K k) = _; rw [hm K k (by omega) (by omega)]; exact hn K k (by omega) (by omega)⟩
theorem Ev.bindO {o : Option α} {g : Nat → Nat → α → Option β} {x : α} {y : β} (h : o = Option.some x) (hg : Ev (fun K k => g K k x) y) : Ev (fun K k => o.bind (g K k)) y := Ev.bind (Ev.of h) hg
theorem Ev.t {b : Bool} {f g : Nat → Nat → Option α} {x : α} (hb : b = true) (h : Ev f x) : Ev (fun K k => cnd b (f K k) (g K k)) x := by subst hb; exact h
theorem Ev.f {b : Bool} {f g : Nat → Nat → Option α} {x : α} (hb : b = false) (h : Ev g x) : Ev (fun K k => cnd b (f K k) (g K k)) x := by subst hb; exact h
theorem Ev.cnd {b : Bool} {f g : Nat → Nat → Option α} {x : α} (h1 : b = true → Ev f x) (h2 : b = false → Ev g x) : Ev (fun K k => Tc.cnd b (f K k) (g K k)) x := by
  cases b with
  | true => exact h1 rfl
  | false => exact h2 rfl
theorem Ev.ite {b : Bool} {f g : Nat → Nat → Option α} {x y : α} (h1 : b = true → Ev f x) (h2 : b = false → Ev g y) : Ev (fun K k => Tc.cnd b (f K k) (g K k)) (if b then x else y) := by
  cases b with
  | true => exact h1 rfl
  | false => exact h2 rfl
theorem Ev.guard {c : Bool} {f : Nat → Nat → Option α} {x : α} (hc : c = true) (h : Ev f x) : Ev (fun K k => guardO c (f K k)) x := Ev.t hc h
theorem Ev.sql {f : Nat → Nat → Option (S ⊕ R)} {g : Nat → Nat → S → Option R} {s : S} {y : R} (hf : Ev f (.inl s)) (hg : Ev (fun K k => g K k s) y) : Ev (fun K k => sq (f K k) (g K k)) y := Ev.bind hf hg
theorem Ev.sqr {f : Nat → Nat → Option (S ⊕ R)} {g : Nat → Nat → S → Option R} {y : R} (hf : Ev f (.inr y)) : Ev (fun K k => sq (f K k) (g K k)) y := Ev.bind hf (Ev.some y)
theorem Ev.out {f : Nat → Nat → Option R} {y : R} (hf : Ev f y) : Ev (fun K k => (out (f K k) : Option (S ⊕ R))) (.inr y) := by
  obtain ⟨n, hn⟩ := hf
  exact ⟨n, fun K k hK hk => by show Tc.out (f K k) = _; rw [hn K k hK hk]; rfl⟩
theorem Ev.inn (s : S) : Ev (fun _ _ => (inn s : Option (S ⊕ R))) (.inl s) := Ev.of rfl
/-- A loop's round. -/
theorem Ev.step {F : Nat → Nat → S → Option R} {s : S} {B : Nat → Nat → Option R} {r : R} (he : ∀ K k, F K (k + 1) s = B K k) (h : Ev B r) : Ev (fun K k => F K k s) r := by
  obtain ⟨n, hn⟩ := h
  refine ⟨n + 1, fun K k hK hk => ?_⟩
  obtain ⟨k, rfl⟩ : ∃ j, k = j + 1 := ⟨k - 1, by omega⟩
  show F K (k + 1) s = _
  rw [he]; exact hn K k (by omega) (by omega)
/-- A loop that is entered with all the fuel. -/
theorem Ev.loop {F : Nat → Nat → S → Option R} {s : S} {r : R} (h : Ev (fun K k => F K k s) r) : Ev (fun K _ => F K K s) r := by
  obtain ⟨n, hn⟩ := h
  exact ⟨n, fun K k hK hk => hn K K hK hK⟩
theorem Ev.fst {f : Nat → Option α} {x : α} (h : Ev (fun K _ => f K) x) : ∃ K, f K = Option.some x := by
  obtain ⟨n, hn⟩ := h
  exact ⟨n, hn n n (Nat.le_refl _) (Nat.le_refl _)⟩
theorem Ev.det {f : Nat → Nat → Option α} {x y : α} (h : Ev f x) (k : Ev f y) : x = y := by
  obtain ⟨m, hm⟩ := h
  obtain ⟨n, hn⟩ := k
  have h1 := hm (max m n) (max m n) (by omega) (by omega)
  have h2 := hn (max m n) (max m n) (by omega) (by omega)
  rw [h1] at h2; exact Option.some.inj h2
end

/-! ### Indices -/
theorem w64_id {n : Int} (h1 : -9223372036854775808 ≤ n) (h2 : n ≤ 9223372036854775807) : w64 n = n := by
  exact IntWalk.i64_in _ (by omega)
theorem idx_eq {α : Type} {l : List α} {i : Nat} {x : α} (h : l[i]? = some x) : idx l (i : Int) = some x := by
  unfold idx; rw [if_pos (by omega)]; simpa using h
theorem idx_get {α : Type} {l : List α} {i : Nat} (h : i < l.length) : idx l (i : Int) = some l[i] := idx_eq (List.getElem?_eq_getElem h)
theorem app_eq {α : Type} {bytes : Nat} {xs ys : List α} (h1 : (xs.length + ys.length) * bytes ≤ 140737488355328) (h2 : xs.length + ys.length ≤ 281474976710656) : app bytes xs ys = some (xs ++ ys) := by
  unfold app; rw [if_pos ⟨h1, by simp only [maxLen]; omega⟩]
theorem subHi_eq {α : Type} {l : List α} {n : Nat} (h : n ≤ l.length) : subHi l (n : Int) = some (l.take n) := by
  unfold subHi; rw [if_pos (by omega)]; simp
theorem subLo_eq {α : Type} {l : List α} {n : Nat} (h : n ≤ l.length) : subLo l (n : Int) = some (l.drop n) := by
  unfold subLo; rw [if_pos (by omega)]; simp
theorem mk_eq {α : Type} {bytes : Nat} {n : Nat} {y : α} (h : bytes * n ≤ 281474976710656) (h2 : n ≤ 9223372036854775807) : mk bytes (n : Int) y = some (List.replicate n y) := by
  unfold mk; rw [if_pos ⟨by omega, by have h3 : ((bytes * n : Nat) : Int) ≤ ((281474976710656 : Nat) : Int) := Int.ofNat_le.2 h; rw [Int.natCast_mul] at h3; exact h3, by omega⟩, Int.toNat_natCast]
end Go.Proofs.YtocfnpnnbmicmaaDoor.Tc
