/- The typing calculus: handing a row on, calls, the way in and out of a function, regions whose order is open. -/
import Derived.Test.YtocfnpnnbmicmaaDoorBase6
set_option linter.unusedVariables false
set_option linter.unusedSimpArgs false
namespace Go.Proofs.YtocfnpnnbmicmaaDoor.Tc
open Go Go.RowKit

/-! ### A row becomes a slice that is only read -/
theorem row_slice {v : Value} {e : TypeId} {sz : Nat} {ess : List (List Ty)} {M M' : Fb} {w : World} (h : RowAt v e sz ess M w) (hl : Le M w M' w) (hm : ∀ b, v.ownBlock = some b → ¬ M' b) : (Ty.slice sz ess).holds M' w v := by
  rcases h with ⟨rfl, rfl⟩ | ⟨g, cap, cur, rfl, hg, h1, h2, h3, h4⟩
  · exact ⟨none, 0, rfl, Nat.le_refl _, fun i es hi => by simp at hi⟩
  · refine ⟨_, cap, rfl, h1, fun i es hi => ?_⟩
    obtain ⟨h5, h6⟩ := h4 i es hi
    refine ⟨h5, _, rfl, fun j T hT => ⟨by rw [add_block]; exact hm g rfl, ?_⟩⟩
    obtain ⟨u, hu, hu1, hu2⟩ := h6 j T hT
    exact ⟨u, by rw [add_add, add_lit, blk_cell hg, Nat.zero_add]; exact hu, hu1, T.mono hu2 hl⟩
theorem erase_facts {gl : Gl} {L : List Item} {w : World} {n : Nat} {i : Item} (h : Holds gl L w) (hn : L[n]? = some i) :
    Holds gl (L.eraseIdx n) w ∧ Le (foot L) w (foot (L.eraseIdx n)) w ∧ (∀ b, i.foot b → ¬ foot (L.eraseIdx n) b) := by
  have hp := erase_at hn
  have h1 := h.perm hp
  refine ⟨h1.tail, (le_perm hp w).trans (Le.of_iff w fun b hb => (foot_cons i _ b).2 (.inr hb)), fun b hb ⟨it, hit, hf⟩ => (List.pairwise_cons.1 h1.apart).1 it hit b hb hf⟩

section
variable {κ : Kx} {Q : Post} {Γ : Cx} {L : List Item} {ops : Array Oper} {rest : List Oper}

def retype (T : Ty) : List Nat → Cx → Cx
  | [], Γ => Γ
  | t :: ts, Γ => (t, T) :: retype T ts Γ
theorem env_retype {L' : List Item} {tmps : Array Value} {w : World} {T : Ty} : ∀ (ts : List Nat), (∀ t, t ∈ ts → T.holds (foot L') w (tmps.getD t undef)) → EnvOk Γ L' tmps w → EnvOk (retype T ts Γ) L' tmps w
  | [], _, h => h
  | t :: ts, ht, h => fun i U hi => by
    simp only [retype, Cx.look] at hi
    split at hi
    · rename_i hk; cases hi; subst hk; exact ht _ (by simp)
    · exact env_retype ts (fun t h => ht t (by simp [h])) h i U hi
def AllOwn (Γ : Cx) (v : Value) : List Nat → Prop
  | [] => True
  | t :: ts => Γ.look t = some (Ty.own v) ∧ AllOwn Γ v ts
theorem AllOwn.at {v : Value} : ∀ {ts : List Nat}, AllOwn Γ v ts → ∀ t, t ∈ ts → Γ.look t = some (Ty.own v)
  | _ :: _, h, t, ht => by
    rcases List.mem_cons.1 ht with rfl | q
    · exact h.1
    · exact AllOwn.at h.2 t q
theorem Sat.publish {a : Act} {w : World} {v : Value} {e : TypeId} {sz : Nat} {ess : List (List Ty)} (s : Sat κ Γ L a w) (n : Nat) (ts : List Nat) (hi : L[n]? = some (Item.row v e sz ess)) (ht : AllOwn Γ v ts) : Sat κ (retype (Ty.slice sz ess) ts Γ) (L.eraseIdx n) a w := by
  obtain ⟨h1, h2, h3⟩ := erase_facts s.holds hi
  have hrow : RowAt v e sz ess (foot L) w := s.holds.each _ (List.mem_of_getElem? hi)
  refine ⟨s.defers, s.size, h1, s.le.trans h2, env_retype ts (fun t h => ?_) (s.env.le h2)⟩
  have := (s.env t _ (ht.at t h)).1
  rw [this]
  exact row_slice hrow h2 (fun b hb => h3 b hb)
theorem okL_publish {v : Value} {e : TypeId} {sz : Nat} {ess : List (List Ty)} (n : Nat) (ts : List Nat) (L' : List Item) (hi : L[n]? = some (Item.row v e sz ess)) (ht : AllOwn Γ v ts) (hL : L' = L.eraseIdx n) (h : OkL κ ops Q rest (retype (Ty.slice sz ess) ts Γ) L') : OkL κ ops Q rest Γ L := fun a w s => by
  subst hL; exact h a w (s.publish n ts hi ht)
theorem okC_publish {c : Code} {v : Value} {e : TypeId} {sz : Nat} {ess : List (List Ty)} (n : Nat) (ts : List Nat) (L' : List Item) (hi : L[n]? = some (Item.row v e sz ess)) (ht : AllOwn Γ v ts) (hL : L' = L.eraseIdx n) (h : OkC κ c Q (retype (Ty.slice sz ess) ts Γ) L') : OkC κ c Q Γ L := fun a w s => by
  subst hL; exact h a w (s.publish n ts hi ht)
theorem okX_publish {x : Exit} {v : Value} {e : TypeId} {sz : Nat} {ess : List (List Ty)} (n : Nat) (ts : List Nat) (L' : List Item) (hi : L[n]? = some (Item.row v e sz ess)) (ht : AllOwn Γ v ts) (hL : L' = L.eraseIdx n) (h : OkX κ Q x (retype (Ty.slice sz ess) ts Γ) L') : OkX κ Q x Γ L := fun a w s => by
  subst hL; exact h a w (s.publish n ts hi ht)
/-- .. whose value lies in a cell of a block of the call's own. -/
theorem Sat.publishB {a : Act} {w : World} {v : Value} {e e2 : TypeId} {sz g j : Nat} {ess : List (List Ty)} {us : List Ty} {R : List Item} (s : Sat κ Γ (Item.row v e sz ess :: Item.blk g e2 us :: R) a w) (ts : List Nat) (hj : us[j]? = some (Ty.own v)) (ht : AllOwn Γ v ts) :
    Sat κ (retype (Ty.slice sz ess) ts Γ) (Item.blk g e2 (us.set j (Ty.slice sz ess)) :: R) a w := by
  obtain ⟨h1, h2, h3⟩ := erase_facts s.holds (n := 0) rfl
  have hrow : RowAt v e sz ess (foot (Item.row v e sz ess :: Item.blk g e2 us :: R)) w := s.holds.each (Item.row v e sz ess) (by simp)
  have hsl : (Ty.slice sz ess).holds (foot (Item.blk g e2 us :: R)) w v := row_slice hrow h2 (fun b hb => h3 b hb)
  have hle : Le (foot (Item.blk g e2 us :: R)) w (foot (Item.blk g e2 (us.set j (Ty.slice sz ess)) :: R)) w := Le.of_iff w fun b hb => by
    rcases (foot_cons _ _ b).1 hb with q | q
    · exact (foot_cons _ _ b).2 (.inl q)
    · exact (foot_cons _ _ b).2 (.inr q)
  have h4 := Holds.swap (i' := Item.blk g e2 (us.set j (Ty.slice sz ess))) (show Holds κ.gl (Item.blk g e2 us :: R) w from h1) (Nat.le_refl _) rfl rfl rfl (fun _ _ _ => rfl) (fun b hb => .inl hb) (fun M hl _ _ => by
    obtain ⟨cs, hg, ha⟩ : BlkAt g e2 us (foot (Item.blk g e2 us :: R)) w := h1.each (Item.blk g e2 us) (by simp)
    refine ⟨cs, hg, by simp [ha.1], fun i T hT => ?_⟩
    rw [List.getElem?_set] at hT
    split at hT
    · rename_i hji
      subst hji
      obtain ⟨u, hu, hu1, hu2⟩ := ha.2 j _ hj
      split at hT
      · cases hT
        have : u = v := hu2.1
        subst this
        exact ⟨u, hu, hu1, (Ty.slice sz ess).mono hsl hl⟩
      · cases hT
    · obtain ⟨u, hu, hu1, hu2⟩ := ha.2 i T hT
      exact ⟨u, hu, hu1, T.mono hu2 hl⟩)
  refine ⟨s.defers, s.size, h4.1, (s.le.trans h2).trans h4.2, env_retype ts (fun t h => ?_) ((s.env.le h2).le h4.2)⟩
  have := (s.env t _ (ht.at t h)).1
  rw [this]
  exact (Ty.slice sz ess).mono hsl h4.2
theorem okL_publishB {v : Value} {e e2 : TypeId} {sz g : Nat} {ess : List (List Ty)} {us : List Ty} {R : List Item} (j : Nat) (ts : List Nat) (us' : List Ty) (hL : L.Perm (Item.row v e sz ess :: Item.blk g e2 us :: R)) (hj : us[j]? = some (Ty.own v)) (ht : AllOwn Γ v ts) (hu : us' = us.set j (Ty.slice sz ess))
    (h : OkL κ ops Q rest (retype (Ty.slice sz ess) ts Γ) (Item.blk g e2 us' :: R)) : OkL κ ops Q rest Γ L := fun a w s => by
  subst hu; exact h a w ((s.perm hL).publishB ts hj ht)

/-! ### Calls -/
/-- The arguments read as As. -/
def ArgsOk (As : List Ty) (M : Fb) (w : World) (vs : Array Value) : Prop := vs.size = As.length ∧ ∀ (j : Nat) (T : Ty), As[j]? = some T → ∃ v, vs[j]? = some v ∧ T.holds M w v
/-- The function f, called where it owns Lin, comes back with Out x. -/
def CallOk (P : Program) (gl : Gl) (f : FuncId) (As : List Ty) (Lin : List Item) (X : Type) (Out : X → Ty × List Item) : Prop :=
  ∀ (L : List Item) (w : World) (vs : Array Value), Holds gl (Lin ++ L) w → ArgsOk As (foot (Lin ++ L)) w vs →
    Calls P f vs w fun e w' => ∃ v x, e = .returned v ∧ Holds gl ((Out x).2 ++ L) w' ∧ Le (foot (Lin ++ L)) w (foot ((Out x).2 ++ L)) w' ∧ (Out x).1.holds (foot ((Out x).2 ++ L)) w' v
/-- .. that owns nothing. -/
def CallP (P : Program) (gl : Gl) (f : FuncId) (As : List Ty) (T : Ty) : Prop := CallOk P gl f As [] Unit (fun _ => (T, []))

variable {dst : Option Nat} {ty : TypeId} {pos : String} {after : Array Edge} {gd : Option (Nat × Bool)}

theorem args_ok {L' : List Item} {a : Act} {w : World} {xs : Array Operand} {As Cs : List Ty} {caps : Array Value} (he : EnvOk Γ L' a.tmps w) (hx : xs.toList.map (opTy Γ) = As.map some) (hc : caps.toList.map Ty.val = Cs) : ArgsOk (As ++ Cs) (foot L') w (xs.map a.eval ++ caps) := by
  have hl : xs.size = As.length := by have := congrArg List.length hx; simpa using this
  have hcl : caps.size = Cs.length := by rw [← hc]; simp
  refine ⟨by simp [hl, hcl], fun j T hT => ?_⟩
  rw [List.getElem?_append] at hT
  rw [Array.getElem?_append]
  simp only [Array.size_map]
  split at hT
  · rename_i hj
    rw [if_pos (by omega)]
    have h1 := congrArg (fun l => l[j]?) hx
    simp only [List.getElem?_map, hT, Option.map_some, Option.map_eq_some_iff] at h1
    obtain ⟨x, hx1, hx2⟩ := h1
    exact ⟨a.eval x, by simpa using ⟨x, by simpa using hx1, rfl⟩, opTy_holds he hx2⟩
  · rename_i hj
    rw [if_neg (by omega)]
    subst hc
    simp only [List.getElem?_map, Option.map_eq_some_iff] at hT
    obtain ⟨u, hu, rfl⟩ := hT
    exact ⟨u, by rw [hl]; simpa using hu, rfl⟩

theorem run_call {a : Act} {w : World} {fo : Operand} {xs : Array Operand} {tys : Array TypeId} {f : FuncId} {caps : Array Value} (hf : a.eval fo = .func (.func f) #[] caps) (hc : ∀ args w, (callFunc f args).run κ.P w = .ok (.enter f args) w) :
    (execOp a.eval ⟨dst, .call ⟨.value fo, xs, tys⟩, ty, pos, after, gd⟩).run κ.P w = .ok (.enter f (xs.map a.eval ++ caps)) w := by
  simp [execOp, resolve, Deferred.ofValue, hf, invoke, hc]

/-- A call that owns nothing. -/
theorem does_call {fo : Operand} {xs : Array Operand} {tys : Array TypeId} {f : FuncId} {caps : Array Value} {As Cs Bs : List Ty} {T : Ty} (hC : CallP κ.P κ.gl f Bs T) (hf : opTy Γ fo = some (Ty.val (.func (.func f) #[] caps))) (hc : ∀ args w, (callFunc f args).run κ.P w = .ok (.enter f args) w)
    (hx : xs.toList.map (opTy Γ) = As.map some) (hcs : caps.toList.map Ty.val = Cs) (hB : Bs = As ++ Cs) : Does κ ⟨dst, .call ⟨.value fo, xs, tys⟩, ty, pos, after, gd⟩ Γ L T := fun L' a w hs hh he K Q hk => by
  have e1 : a.eval fo = .func (.func f) #[] caps := opTy_holds he hf
  unfold Oper.wp
  rw [run_call e1 hc]
  subst hB
  refine (hC L' w _ hh (args_ok he hx hcs)).mono ?_
  rintro e w' ⟨v, _, rfl, h1, h2, h3⟩
  exact hk v w' h1 h2 h3

/-- A call that is handed Lin. -/
theorem doesO_call {C : Ty → List Item → Prop} {X : Type} {Out : X → Ty × List Item} {Lin : List Item} {fo : Operand} {xs : Array Operand} {tys : Array TypeId} {f : FuncId} {caps : Array Value} {As Cs Bs : List Ty} (Lr : List Item) (hC : CallOk κ.P κ.gl f Bs Lin X Out)
    (hf : opTy Γ fo = some (Ty.val (.func (.func f) #[] caps))) (hc : ∀ args w, (callFunc f args).run κ.P w = .ok (.enter f args) w)
    (hx : xs.toList.map (opTy Γ) = As.map some) (hcs : caps.toList.map Ty.val = Cs) (hB : Bs = As ++ Cs) (hL : L.Perm (Lin ++ Lr)) (h : ∀ x, C (Out x).1 ((Out x).2 ++ Lr)) :
    DoesO κ ⟨dst, .call ⟨.value fo, xs, tys⟩, ty, pos, after, gd⟩ Γ L C := fun a w s0 K Q hk => by
  have s := s0.perm hL
  have e1 : a.eval fo = .func (.func f) #[] caps := opTy_holds s.env hf
  unfold Oper.wp
  rw [run_call e1 hc]
  subst hB
  refine (hC Lr w _ s.holds (args_ok s.env hx hcs)).mono ?_
  rintro e w' ⟨v, x, rfl, h1, h2, h3⟩
  exact hk _ _ _ _ h1 ((le_perm hL w).trans h2) h3 (h x)

/-! ### In and out of a function -/
def RetP (gl : Gl) (L0 : List Item) (w0 : World) (Lt : List Item) {X : Type} (Out : X → Ty × List Item) : Ending → World → Prop :=
  fun e w' => ∃ v x, e = .returned v ∧ Holds gl ((Out x).2 ++ Lt) w' ∧ Le (foot L0) w0 (foot ((Out x).2 ++ Lt)) w' ∧ (Out x).1.holds (foot ((Out x).2 ++ Lt)) w' v
def number : Nat → List Ty → Cx
  | _, [] => []
  | k, T :: r => (k, T) :: number (k + 1) r
theorem number_look : ∀ (As : List Ty) (k t : Nat) (T : Ty), (number k As).look t = some T → ∃ j, t = k + j ∧ As[j]? = some T
  | [], _, _, _, h => by cases h
  | A :: As, k, t, T, h => by
    simp only [number, Cx.look] at h
    split at h
    · rename_i hk; cases h; exact ⟨0, hk.symm, rfl⟩
    · obtain ⟨j, h1, h2⟩ := number_look As (k + 1) t T h
      exact ⟨j + 1, by omega, by simpa using h2⟩
theorem call_of_code {P : Program} {gl : Gl} {f : FuncId} {fn : Func} {c : Code} {n : Nat} {As : List Ty} {Lin : List Item} {X : Type} {Out : X → Ty × List Item} (hf : P.funcs[f]? = some fn) (hb : fn.body = some c) (hn : fn.ntmps = n) (hle : Nat.ble As.length n = true)
    (h : ∀ (L : List Item) (w : World), OkC ⟨P, gl, n, Lin ++ L, w⟩ c (bodyPost P fn (RetP gl (Lin ++ L) w L Out)) (number 0 As) (Lin ++ L)) : CallOk P gl f As Lin X Out := fun L w vs hh ha => by
  refine calls_of_wp hf hb (h L w _ w ⟨rfl, ?_, hh, Le.refl _ _, fun t T ht => ?_⟩)
  · have := Nat.le_of_ble_eq_true hle
    have h1 := ha.1
    show (vs ++ Array.replicate (fn.ntmps - vs.size) undef).size = n
    simp [hn]; omega
  · obtain ⟨j, h1, h2⟩ := number_look As 0 t T ht
    obtain ⟨v, hv, hT⟩ := ha.2 j T h2
    have : t = j := by omega
    subst this
    have hlt : t < vs.size := (Array.getElem?_eq_some_iff.1 hv).1
    have e1 : (vs ++ Array.replicate (fn.ntmps - vs.size) undef).getD t undef = v := by
      rw [Array.getD_eq_getD_getElem?, Array.getElem?_append_left hlt, hv]; rfl
    show T.holds _ w ((vs ++ Array.replicate (fn.ntmps - vs.size) undef).getD t undef)
    rw [e1]; exact hT
section ret
variable {P : Program} {gl : Gl} {n : Nat} {L0 Lt : List Item} {w0 : World} {fn : Func} {X : Type} {Out : X → Ty × List Item}
theorem okX_ret1 {t : Nat} (x : X) (hr : fn.results = #[.tmp t]) (ht : Γ.look t = some (Out x).1) (hL : L = (Out x).2 ++ Lt) : OkX ⟨P, gl, n, L0, w0⟩ (bodyPost P fn (RetP gl L0 w0 Lt Out)) .ret Γ L := fun a w s => by
  subst hL
  exact ⟨s.defers, _, results_tmp hr _ _ _, _, x, rfl, s.holds, s.le, s.env t _ ht⟩
theorem okX_ret2 {t u : Nat} {T U : Ty} (x : X) (hr : fn.results = #[.tmp t, .tmp u]) (ht : Γ.look t = some T) (hu : Γ.look u = some U) (hO : (Out x).1 = Ty.tup [T, U]) (hL : L = (Out x).2 ++ Lt) : OkX ⟨P, gl, n, L0, w0⟩ (bodyPost P fn (RetP gl L0 w0 Lt Out)) .ret Γ L := fun a w s => by
  subst hL
  refine ⟨s.defers, _, results_tmp2 hr _ _ _, _, x, rfl, s.holds, s.le, ?_⟩
  rw [hO]
  refine ⟨_, rfl, rfl, fun j V hV => ?_⟩
  match j with
  | 0 => cases hV; exact ⟨_, rfl, s.env t _ ht⟩
  | 1 => cases hV; exact ⟨_, rfl, s.env u _ hu⟩
  | j + 2 => simp at hV
theorem okX_ret0 (x : X) (hr : fn.results = #[]) (hO : (Out x).1 = Ty.tup []) (hL : L = (Out x).2 ++ Lt) : OkX ⟨P, gl, n, L0, w0⟩ (bodyPost P fn (RetP gl L0 w0 Lt Out)) .ret Γ L := fun a w s => by
  subst hL
  refine ⟨s.defers, _, results_none hr _ _ _, _, x, rfl, s.holds, s.le, ?_⟩
  rw [hO]
  exact ⟨#[], rfl, rfl, fun j V hV => by simp at hV⟩
theorem okX_end0 (x : X) (hr : fn.results = #[]) (hO : (Out x).1 = Ty.tup []) (hL : L = (Out x).2 ++ Lt) : OkX ⟨P, gl, n, L0, w0⟩ (bodyPost P fn (RetP gl L0 w0 Lt Out)) .normal Γ L := fun a w s => okX_ret0 x hr hO hL a w s
end ret
/-- Items in front are forgotten. -/
theorem okX_drop {x : Exit} (l : List Item) (L' : List Item) (hL : L = l ++ L') (h : OkX κ Q x Γ L') : OkX κ Q x Γ L := fun a w s => by
  subst hL
  induction l with
  | nil => exact h a w s
  | cons i l ih => exact ih s.tail
theorem okC_drop {c : Code} (l : List Item) (L' : List Item) (hL : L = l ++ L') (h : OkC κ c Q Γ L') : OkC κ c Q Γ L := fun a w s => by
  subst hL
  induction l with
  | nil => exact h a w s
  | cons i l ih => exact ih s.tail
end
end Go.Proofs.YtocfnpnnbmicmaaDoor.Tc
