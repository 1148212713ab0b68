/- The typing calculus: words for chains, picks, results that are not kept. -/
import Derived.Test.YtocfnpnnbmicmaaDoorBase11
set_option linter.unusedVariables false
set_option linter.unusedSimpArgs false
namespace Go.Proofs.YtocfnpnnbmicmaaDoor.Tc
open Go Go.RowKit

theorem sqi {S R : Type} {z : S ⊕ R} {k : S → Option R} {r : R} {s : S} (hz : z = .inl s) (h : sqv z k = some r) : k s = some r := by subst hz; exact h
theorem bqi {S R : Type} {z : S} {k : S → Option R} {r : R} {s : S} (hz : z = s) (h : k z = some r) : k s = some r := by subst hz; exact h

section
variable {κ : Kx} {Q : Post} {Γ : Cx} {L : List Item} {ops : Array Oper} {rest l : List Oper} {hs : Hs}
variable {dst : Option Nat} {op : Op} {ty : TypeId} {pos : String} {after : Array Edge} {gd : Option (Nat × Bool)}
theorem does_pick_b {c x y : Operand} {b e1 e2 : Bool} (hc : opTy Γ c = some (tB b)) (hx : opTy Γ x = some (tB e1)) (hy : opTy Γ y = some (tB e2)) : Does κ ⟨dst, .pick c x y, ty, pos, after, gd⟩ Γ L (tB (cnd b e1 e2)) := by
  cases hb : b with
  | true => exact does_pick_t b hc hb hx
  | false => exact does_pick_f b hc hb hy
theorem okL_stepN {T : Ty} (hd : dst = none) (hD : Does κ ⟨dst, op, ty, pos, after, none⟩ Γ L T) (h : OkL κ ops Q rest Γ L) : OkL κ ops Q (⟨dst, op, ty, pos, after, none⟩ :: rest) Γ L := fun a w s => by
  subst hd
  refine wpList_plain rfl fun K hK => ?_
  exact hD L a w (fun _ h => h) s.holds s.env K Q fun v w' hh hl hv => hK _ _ (h _ _ ⟨s.defers, s.size, hh, s.le.trans hl, s.env.le hl⟩)
theorem doesO_of {o : Oper} {T : Ty} {C : Ty → List Item → Prop} (h : Does κ o Γ L T) (hC : C T L) : DoesO κ o Γ L C := fun a w s K Q hk =>
  h L a w (fun _ h => h) s.holds s.env K Q fun v w' x y z => hk v w' T L x y z hC
def ChainAt (κ : Kx) (l : List Oper) (hs : Hs) (Γ : Cx) (Ls : Two) (F : Cx → List Item → Prop) (f : Nat) (rem : List Nat) (Γc : Cx) (L : List Item) (p : Nat) : Prop :=
  ∃ o, l[p]? = some o ∧ GOk l (ctxOf hs (Γc ++ Γ) o.after.toList) o ∧ DoesO κ o (ctxOf hs (Γc ++ Γ) o.after.toList) L (fun T L' => Stays Ls (rem.erase p) L' ∧ Chain κ l hs Γ Ls F f (rem.erase p) (putD o.dst T Γc) L')
theorem ch_step {Ls : Two} {F : Cx → List Item → Prop} {f : Nat} {rem : List Nat} {Γc : Cx} (ns : List Nat) (hn : nxt (ancs l []) rem = ns) (h : AllP (ChainAt κ l hs Γ Ls F f rem Γc L) ns) : Chain κ l hs Γ Ls F (f + 1) rem Γc L := ⟨ns, hn, h⟩
theorem ch_end {Ls : Two} {F : Cx → List Item → Prop} {rem : List Nat} {Γc : Cx} (h : F Γc L) : Chain κ l hs Γ Ls F 0 rem Γc L := h
theorem ap_nil {α : Type} {P : α → Prop} : AllP P [] := trivial
theorem ap_cons {α : Type} {P : α → Prop} {x : α} {r : List α} (h : P x) (hr : AllP P r) : AllP P (x :: r) := ⟨h, hr⟩
theorem ch_at {Ls : Two} {F : Cx → List Item → Prop} {f : Nat} {rem : List Nat} {Γc : Cx} {p : Nat} (o : Oper) (ho : l[p]? = some o) (hg : o.guard = none)
    (h : DoesO κ o (ctxOf hs (Γc ++ Γ) o.after.toList) L (fun T L' => Stays Ls (rem.erase p) L' ∧ Chain κ l hs Γ Ls F f (rem.erase p) (putD o.dst T Γc) L')) : ChainAt κ l hs Γ Ls F f rem Γc L p := ⟨o, ho, .inl hg, h⟩
theorem ch_atG {Ls : Two} {F : Cx → List Item → Prop} {f : Nat} {rem : List Nat} {Γc : Cx} {p : Nat} (o : Oper) (j dj : Nat) (want : Bool) (b : Bool) (ho : l[p]? = some o) (hg : o.guard = some (j, want)) (hj : (l[j]?).bind (·.dst) = some dj) (hl : (ctxOf hs (Γc ++ Γ) o.after.toList).look dj = some (tB b)) (hb : b = want)
    (h : DoesO κ o (ctxOf hs (Γc ++ Γ) o.after.toList) L (fun T L' => Stays Ls (rem.erase p) L' ∧ Chain κ l hs Γ Ls F f (rem.erase p) (putD o.dst T Γc) L')) : ChainAt κ l hs Γ Ls F f rem Γc L p := ⟨o, ho, .inr ⟨j, want, dj, hg, hj, by rw [← hb]; exact hl⟩, h⟩
theorem chain_cast {Ls : Two} {F : Cx → List Item → Prop} {f : Nat} {rem rem' : List Nat} {Γc Γc' : Cx} (hr : rem = rem') (hc : Γc = Γc') (h : Chain κ l hs Γ Ls F f rem' Γc' L) : Chain κ l hs Γ Ls F f rem Γc L := by subst hr hc; exact h
end
end Go.Proofs.YtocfnpnnbmicmaaDoor.Tc
