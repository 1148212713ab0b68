/- The typing calculus: small words for the printed derivations. -/
import Derived.Test.YtocfnpnnbmicmaaDoorBase9
set_option linter.unusedVariables false
set_option linter.unusedSimpArgs false
namespace Go.Proofs.YtocfnpnnbmicmaaDoor.Tc
open Go Go.RowKit

/-! ### The pure side -/
theorem bs {α β : Type} {o : Option α} {f : α → Option β} {r : β} (h : o.bind f = some r) : ∃ a, o = some a ∧ f a = some r := by
  cases o with
  | none => cases h
  | some a => exact ⟨a, rfl, h⟩
def cnd {α : Type} (b : Bool) (x y : α) : α := match b with | true => x | false => y
theorem ct {α : Type} {b : Bool} {x y r : α} (hb : b = true) (h : cnd b x y = r) : x = r := by subst hb; exact h
theorem cf {α : Type} {b : Bool} {x y r : α} (hb : b = false) (h : cnd b x y = r) : y = r := by subst hb; exact h
/-- A piece that comes to its end (inl) or leaves for good (inr). -/
def sqv {S R : Type} (z : S ⊕ R) (k : S → Option R) : Option R := match z with | .inl s => k s | .inr r => some r
def sq {S R : Type} (o : Option (S ⊕ R)) (k : S → Option R) : Option R := o.bind fun z => sqv z k
theorem sqs {S R : Type} {o : Option (S ⊕ R)} {k : S → Option R} {r : R} (h : sq o k = some r) : ∃ z, o = some z ∧ sqv z k = some r := bs h
def guardO {α : Type} (c : Bool) (x : Option α) : Option α := cnd c x none
theorem gs {α : Type} {c : Bool} {x : Option α} {r : α} (h : guardO c x = some r) : c = true ∧ x = some r := by cases c with | true => exact ⟨rfl, h⟩ | false => cases h
theorem and_t {b e : Bool} (h : b = true) : e = (b && e) := by subst h; rfl
theorem and_f {b e : Bool} (h : b = false) : false = (b && e) := by subst h; rfl
theorem or_t {b e : Bool} (h : b = true) : true = (b || e) := by subst h; rfl
theorem or_f {b e : Bool} (h : b = false) : e = (b || e) := by subst h; rfl
theorem ne0 {n : Int} (h : (n != 0) = true) : n ≠ 0 := by simpa using h

section
variable {κ : Kx} {Q : Post} {Γ : Cx} {L : List Item} {ops : Array Oper} {rest l : List Oper}
theorem wpList_app {P : Program} {ops : Array Oper} {Q : Post} {l2 : List Oper} : ∀ (l1 : List Oper) (a : Act) (w : World), wpList P ops (Exit.then (wpList P ops Q l2) Q) l1 a w → wpList P ops Q (l1 ++ l2) a w
  | [], a, w, h => h
  | o :: l1, a, w, h => by
    have hq : ∀ (K K' : Act → World → Prop), (∀ a w, K a w → K' a w) → o.wp P a w K (Exit.then (wpList P ops Q l2) Q) → o.wp P a w K' Q := by
      intro K K' hK hh
      unfold Oper.wp at hh ⊢
      generalize (execOp a.eval o).run P w = r at hh
      cases r with
      | ok n w' =>
        cases n <;> simp only [Oper.upon] at hh ⊢ <;>
          first
            | exact hK _ _ hh
            | exact hh.mono (fun e w'' he => by cases e <;> first | exact hK _ _ he | exact he)
            | exact hh.mono (fun _ _ he => hK _ _ he)
            | exact hh
      | halt x w' => cases x <;> simp only [Oper.upon] at hh ⊢ <;> exact hh
    simp only [List.cons_append, wpList] at h ⊢
    split
    · rename_i hw
      rw [if_pos hw] at h
      rcases h with h | ⟨h1, h2⟩
      · exact .inl (hq _ _ (fun a w h => wpList_app l1 a w h) h)
      · exact .inr ⟨h1, h2⟩
    · rename_i hw
      rw [if_neg hw] at h
      exact wpList_app l1 _ _ h
/-- Within a region: ways meet again behind n operations. -/
theorem okL_meet {X : Type} (n : Nat) (I : X → Prop) (G : X → Cx) (Lf : X → List Item) (l2 : List Oper) (hl : l.drop n = l2) (h : OkL κ ops (Exit.then (Meet κ I G Lf) Q) (l.take n) Γ L) (hy : ∀ x, I x → OkL κ ops Q l2 (G x) (Lf x)) : OkL κ ops Q l Γ L := fun a w s => by
  subst hl
  have e : l = l.take n ++ l.drop n := (List.take_append_drop n l).symm
  rw [e]
  refine wpList_app _ a w ?_
  have mono : ∀ (l1 : List Oper) (a : Act) (w : World), wpList κ.P ops (Exit.then (Meet κ I G Lf) Q) l1 a w → wpList κ.P ops (Exit.then (wpList κ.P ops Q (l.drop n)) Q) l1 a w := by
    intro l1
    induction l1 with
    | nil => intro a w h'; obtain ⟨x, hx, hs⟩ := h'; exact hy x hx a w hs
    | cons o l1 ih =>
      intro a w h'
      simp only [wpList] at h' ⊢
      split
      · rename_i hw
        rw [if_pos hw] at h'
        rcases h' with h' | ⟨h1, h2⟩
        · refine .inl ?_
          unfold Oper.wp at h' ⊢
          generalize (execOp a.eval o).run κ.P w = r at h'
          cases r with
          | ok n w' =>
            cases n <;> simp only [Oper.upon] at h' ⊢ <;>
              first
                | exact ih _ _ h'
                | exact h'.mono (fun e w'' he => by cases e <;> first | exact ih _ _ he | exact he)
                | exact h'.mono (fun _ _ he => ih _ _ he)
                | exact h'
          | halt x w' => cases x <;> simp only [Oper.upon] at h' ⊢ <;> exact h'
        · exact .inr ⟨h1, h2⟩
      · rename_i hw
        rw [if_neg hw] at h'
        exact ih _ _ h'
  exact mono _ a w (h a w s)
theorem okL_split (b : Bool) (ht : b = true → OkL κ ops Q l Γ L) (hf : b = false → OkL κ ops Q l Γ L) : OkL κ ops Q l Γ L := by cases hb : b with | true => exact ht hb | false => exact hf hb
theorem okC_split {c : Code} (b : Bool) (ht : b = true → OkC κ c Q Γ L) (hf : b = false → OkC κ c Q Γ L) : OkC κ c Q Γ L := by cases hb : b with | true => exact ht hb | false => exact hf hb
theorem okL_cov (Γ' : Cx) (hc : Cov Γ Γ') (h : OkL κ ops Q l Γ' L) : OkL κ ops Q l Γ L := fun a w s => h a w (s.cov hc)
theorem sub_b {e e' : Bool} (h : e = e') : Sub (tB e) (tB e') := by subst h; exact fun _ _ _ h => h
theorem sub_eq {T T' : Ty} (h : T = T') : Sub T T' := by subst h; exact fun _ _ _ h => h
theorem pm {L R : List Item} {it : Item} (n : Nat) (hn : L[n]? = some it) (h : (L.eraseIdx n).Perm R) : L.Perm (it :: R) := (erase_at hn).trans (h.cons it)
theorem pr (L : List Item) : L.Perm L := List.Perm.refl L
theorem Sat.keep {a : Act} {w : World} {L' : List Item} : ∀ (D : List Item), L.Perm (D ++ L') → Sat κ Γ L a w → Sat κ Γ L' a w := fun D hp s => by
  have s1 := s.perm hp
  clear hp s
  induction D with
  | nil => exact s1
  | cons i D ih => exact ih s1.tail
theorem okX_items {x : Exit} (D L' : List Item) (hp : L.Perm (D ++ L')) (h : OkX κ Q x Γ L') : OkX κ Q x Γ L := fun a w s => h a w (s.keep D hp)
theorem okC_items {c : Code} (D L' : List Item) (hp : L.Perm (D ++ L')) (h : OkC κ c Q Γ L') : OkC κ c Q Γ L := fun a w s => h a w (s.keep D hp)
theorem okL_items (D L' : List Item) (hp : L.Perm (D ++ L')) (h : OkL κ ops Q l Γ L') : OkL κ ops Q l Γ L := fun a w s => h a w (s.keep D hp)
theorem Sat.nilrow {a : Act} {w : World} {sz : Nat} {α : Type} (f : α → List Ty) (e : TypeId) (t : Nat) (ht : Γ.look t = some (Ty.val (.slice none 0 0))) (s : Sat κ Γ L a w) : Sat κ ((t, Ty.own (.slice none 0 0)) :: Γ) (rowL (.slice none 0 0) e sz f [] :: L) a w := by
  have hn := s.holds.new (i' := rowL (.slice none 0 0) e sz f []) (Nat.le_refl _) rfl rfl rfl (fun _ _ => rfl) (fun b hb => by have hb' : (Value.slice none 0 0).ownBlock = some b := hb; simp [Value.ownBlock] at hb') (fun M hl _ _ => .inl ⟨rfl, rfl⟩)
  refine ⟨s.defers, s.size, hn.1, s.le.trans hn.2, fun i U hi => ?_⟩
  simp only [Cx.look] at hi
  split at hi
  · rename_i hk; cases hi; subst hk; exact ⟨s.env _ _ ht, by rw [show a.tmps.getD t undef = _ from s.env _ _ ht]; rfl⟩
  · exact U.mono (s.env _ _ hi) hn.2
theorem okC_nilrow {c : Code} {sz : Nat} {α : Type} (f : α → List Ty) (e : TypeId) (t : Nat) (ht : Γ.look t = some (Ty.val (.slice none 0 0))) (h : OkC κ c Q ((t, Ty.own (.slice none 0 0)) :: Γ) (rowL (.slice none 0 0) e sz f [] :: L)) : OkC κ c Q Γ L := fun a w s => h a w (s.nilrow f e t ht)
theorem okX_nilrow {c : Exit} {sz : Nat} {α : Type} (f : α → List Ty) (e : TypeId) (t : Nat) (ht : Γ.look t = some (Ty.val (.slice none 0 0))) (h : OkX κ Q c ((t, Ty.own (.slice none 0 0)) :: Γ) (rowL (.slice none 0 0) e sz f [] :: L)) : OkX κ Q c Γ L := fun a w s => h a w (s.nilrow f e t ht)
theorem wrap_u64_nonneg (n : Int) : 0 ≤ IntKind.u64.wrap n := by
  simp only [IntKind.wrap, IntKind.bits, IntKind.signed]; simp; omega
variable {dst : Option Nat} {op : Op} {ty : TypeId} {pos : String} {after : Array Edge} {gd : Option (Nat × Bool)}
/-- A call that owns nothing, nothing captured. -/
theorem does_call0 {fo : Operand} {xs : Array Operand} {tys : Array TypeId} {f : FuncId} {Bs : List Ty} {T : Ty} (hC : CallP κ.P κ.gl f Bs T) (hf : opTy Γ fo = some (Ty.val (.func (.func f) #[] #[]))) (hc : ∀ args w, (callFunc f args).run κ.P w = .ok (.enter f args) w)
    (hx : xs.toList.map (opTy Γ) = Bs.map some) : Does κ ⟨dst, .call ⟨.value fo, xs, tys⟩, ty, pos, after, gd⟩ Γ L T := does_call hC hf hc hx rfl (List.append_nil Bs).symm
theorem doesO_call0 {C : Ty → List Item → Prop} {X : Type} {Out : X → Ty × List Item} {Lin : List Item} {fo : Operand} {xs : Array Operand} {tys : Array TypeId} {f : FuncId} {Bs : List Ty} (Lr : List Item) (hC : CallOk κ.P κ.gl f Bs Lin X Out)
    (hf : opTy Γ fo = some (Ty.val (.func (.func f) #[] #[]))) (hc : ∀ args w, (callFunc f args).run κ.P w = .ok (.enter f args) w)
    (hx : xs.toList.map (opTy Γ) = Bs.map some) (hL : L.Perm (Lin ++ Lr)) (h : ∀ x, C (Out x).1 ((Out x).2 ++ Lr)) :
    DoesO κ ⟨dst, .call ⟨.value fo, xs, tys⟩, ty, pos, after, gd⟩ Γ L C := doesO_call Lr hC hf hc hx rfl (List.append_nil Bs).symm hL h
theorem okL_skipU {j : Nat} {want : Bool} (d : Nat) (dj : Nat) (hj : (ops[j]?).bind (·.dst) = some dj) (hb : Γ.look dj = some (Ty.val undef)) (hd : dst = some d) (hn : Nat.blt d κ.n = true)
    (h : OkL κ ops Q rest ((d, Ty.val undef) :: Γ) L) : OkL κ ops Q (⟨dst, op, ty, pos, after, some (j, want)⟩ :: rest) Γ L := fun a w s => by
  subst hd
  refine wpList_step fun K hK => ?_
  have he : a.tmps.getD dj undef = undef := s.env dj _ hb
  have this : ∀ b, a.tmps[dj]? ≠ some (.bool b) := fun b hb => by
    rw [Array.getD_eq_getD_getElem?, hb] at he
    simp [undef] at he
  have h7 : yielded ops a.tmps j = none := by
    simp only [yielded, hj, Option.bind_some]
    first
      | done
      | (split
         · rename_i b hb; exact absurd hb (this b)
         · rfl)
  rw [if_neg (by simp [Region.wanted, h7])]
  exact hK _ _ (h _ _ (s.put d _ undef (Nat.lt_of_succ_le (Nat.le_of_ble_eq_true hn)) s.holds (Le.refl _ _) rfl))
end
end Go.Proofs.YtocfnpnnbmicmaaDoor.Tc
