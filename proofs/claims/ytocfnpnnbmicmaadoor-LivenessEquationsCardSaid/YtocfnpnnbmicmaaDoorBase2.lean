/- The typing calculus: one lemma an operation that does not change what the call owns. -/
import Derived.Test.YtocfnpnnbmicmaaDoorBase1
set_option linter.unusedVariables false
set_option linter.unusedSimpArgs false
namespace Go.Proofs.YtocfnpnnbmicmaaDoor.Tc
open Go

/-- The operation answers a value that reads as T; what is owned stays. -/
def Does (κ : Kx) (o : Oper) (Γ : Cx) (L : List Item) (T : Ty) : Prop :=
  ∀ (L' : List Item) (a : Act) (w : World), (∀ it, it ∈ L → it ∈ L') → Holds κ.gl L' w → EnvOk Γ L' a.tmps w → ∀ (K : Act → World → Prop) (Q : Post),
    (∀ v w', Holds κ.gl L' w' → Le (foot L') w (foot L') w' → T.holds (foot L') w' v → K (a.put o.dst v) w') → o.wp κ.P a w K Q

section
variable {κ : Kx} {Q : Post} {Γ : Cx} {L : List Item} {ops : Array Oper} {rest : List Oper}

theorem getD_set (xs : Array Value) (d t : Nat) (v : Value) (hd : d < xs.size) : (xs.setIfInBounds d v).getD t undef = if d = t then v else xs.getD t undef := by
  by_cases h : d = t
  · subst h; simp [Array.getD, hd]
  · simp only [h, if_false, Array.getD_eq_getD_getElem?, Array.getElem?_setIfInBounds_ne h]

theorem Sat.put {a : Act} {w w' : World} {L' : List Item} (s : Sat κ Γ L a w) (d : Nat) (T : Ty) (v : Value) (hd : d < κ.n) (hh : Holds κ.gl L' w') (hl : Le (foot L) w (foot L') w') (hv : T.holds (foot L') w' v) :
    Sat κ ((d, T) :: Γ) L' (a.put (some d) v) w' := by
  refine ⟨s.defers, by simp [Act.put, s.size], hh, s.le.trans hl, fun t U ht => ?_⟩
  simp only [Act.put]
  rw [getD_set _ _ _ _ (by rw [s.size]; exact hd)]
  simp only [Cx.look] at ht
  split at ht
  · rename_i hk; cases ht; rw [if_pos hk]; exact hv
  · rename_i hk; rw [if_neg hk]; exact U.mono (s.env t U ht) hl

theorem okL_step {dst : Option Nat} {op : Op} {ty : TypeId} {pos : String} {after : Array Edge} (d : Nat) (T : Ty) (hd : dst = some d) (hn : Nat.blt d κ.n = true)
    (hD : Does κ ⟨dst, op, ty, pos, after, none⟩ Γ L T) (h : OkL κ ops Q rest ((d, T) :: Γ) L) : OkL κ ops Q (⟨dst, op, ty, pos, after, none⟩ :: rest) Γ L := fun a w s => by
  subst hd
  refine wpList_plain rfl fun K hK => ?_
  exact hD L a w (fun _ h => h) s.holds s.env K Q fun v w' hh hl hv => hK _ _ (h _ _ (s.put d T v (Nat.lt_of_succ_le (Nat.le_of_ble_eq_true hn)) hh hl hv))

theorem wanted_of {a : Act} {w : World} {o : Oper} {j : Nat} {want b : Bool} (s : Sat κ Γ L a w) (hg : o.guard = some (j, want)) (dj : Nat) (hj : (ops[j]?).bind (·.dst) = some dj) (hb : Γ.look dj = some (tB b)) :
    Region.wanted o (yielded ops a.tmps) = (b == want) := by
  have he : a.tmps.getD dj undef = .bool b := s.env dj _ hb
  have : a.tmps[dj]? = some (.bool b) := by
    rw [Array.getD_eq_getD_getElem?] at he
    cases hx : a.tmps[dj]? with
    | none => rw [hx] at he; simp [undef] at he
    | some u => rw [hx] at he; simp at he; rw [he]
  simp [Region.wanted, hg, yielded, hj, this]
theorem okL_guard {dst : Option Nat} {op : Op} {ty : TypeId} {pos : String} {after : Array Edge} {j : Nat} {want : Bool} (d : Nat) (T : Ty) (dj : Nat) (b : Bool) (hj : (ops[j]?).bind (·.dst) = some dj) (hb : Γ.look dj = some (tB b)) (hw : b = want)
    (hd : dst = some d) (hn : Nat.blt d κ.n = true)
    (hD : Does κ ⟨dst, op, ty, pos, after, some (j, want)⟩ Γ L T) (h : OkL κ ops Q rest ((d, T) :: Γ) L) : OkL κ ops Q (⟨dst, op, ty, pos, after, some (j, want)⟩ :: rest) Γ L := fun a w s => by
  subst hd hw
  refine wpList_step fun K hK => ?_
  rw [if_pos (by rw [wanted_of s rfl dj hj hb]; simp)]
  exact hD L a w (fun _ h => h) s.holds s.env K Q fun v w' hh hl hv => hK _ _ (h _ _ (s.put d T v (Nat.lt_of_succ_le (Nat.le_of_ble_eq_true hn)) hh hl hv))
theorem okL_skip {dst : Option Nat} {op : Op} {ty : TypeId} {pos : String} {after : Array Edge} {j : Nat} {want : Bool} (d : Nat) (dj : Nat) (b : Bool) (hj : (ops[j]?).bind (·.dst) = some dj) (hb : Γ.look dj = some (tB b)) (hw : b = !want)
    (hd : dst = some d) (hn : Nat.blt d κ.n = true)
    (h : OkL κ ops Q rest ((d, Ty.val undef) :: Γ) L) : OkL κ ops Q (⟨dst, op, ty, pos, after, some (j, want)⟩ :: rest) Γ L := fun a w s => by
  subst hd hw
  refine wpList_step fun K hK => ?_
  rw [if_neg (by rw [wanted_of s rfl dj hj hb]; cases want <;> simp)]
  exact hK _ _ (h _ _ (s.put d _ undef (Nat.lt_of_succ_le (Nat.le_of_ble_eq_true hn)) s.holds (Le.refl _ _) rfl))

theorem okL_nil (h : OkX κ Q .normal Γ L) : OkL κ ops Q [] Γ L := fun a w s => wpList_nil (h a w s)
theorem okC_region {id : Nat} {l : List Oper} (h : OkL κ l.toArray Q l Γ L) : OkC κ (.region id l.toArray false) Q Γ L := fun a w s => wp_region_lit (h a w s)

/-! ### What runs without touching the world -/
theorem does_of_run {o : Oper} {T : Ty} (h : ∀ (L' : List Item) (a : Act) (w : World), (∀ it, it ∈ L → it ∈ L') → Holds κ.gl L' w → EnvOk Γ L' a.tmps w → ∃ v, (execOp a.eval o).run κ.P w = .ok (.value v) w ∧ T.holds (foot L') w v) : Does κ o Γ L T :=
  fun L' a w hs hh he K Q hk => by
    obtain ⟨v, hr, hv⟩ := h L' a w hs hh he
    unfold Oper.wp
    rw [hr]
    exact hk v w hh (Le.refl _ _) hv

variable {dst : Option Nat} {ty : TypeId} {pos : String} {after : Array Edge} {gd : Option (Nat × Bool)}

theorem does_move {x : Operand} {T : Ty} (hx : opTy Γ x = some T) : Does κ ⟨dst, .move x, ty, pos, after, gd⟩ Γ L T :=
  does_of_run fun L' a w _ _ he => ⟨a.eval x, by simp [execOp], opTy_holds he hx⟩
theorem does_assign {x : Operand} {T : Ty} (hx : opTy Γ x = some T) : Does κ ⟨dst, .assign x, ty, pos, after, gd⟩ Γ L T :=
  does_of_run fun L' a w _ _ he => ⟨a.eval x, by simp [execOp], opTy_holds he hx⟩
theorem does_pick_t {c x y : Operand} {T : Ty} (b : Bool) (hc : opTy Γ c = some (tB b)) (hb : b = true) (hx : opTy Γ x = some T) : Does κ ⟨dst, .pick c x y, ty, pos, after, gd⟩ Γ L T :=
  does_of_run fun L' a w _ _ he => ⟨a.eval x, by
    have : a.eval c = .bool b := opTy_holds he hc
    subst hb
    simp [execOp, this, asBool], opTy_holds he hx⟩
theorem does_pick_f {c x y : Operand} {T : Ty} (b : Bool) (hc : opTy Γ c = some (tB b)) (hb : b = false) (hx : opTy Γ y = some T) : Does κ ⟨dst, .pick c x y, ty, pos, after, gd⟩ Γ L T :=
  does_of_run fun L' a w _ _ he => ⟨a.eval y, by
    have : a.eval c = .bool b := opTy_holds he hc
    subst hb
    simp [execOp, this, asBool], opTy_holds he hx⟩

abbrev tK (k : IntKind) (n : Int) : Ty := Ty.val (.int k n)
def bAnd (k : IntKind) (x y : Int) : Int := k.wrap (BitVec.ofInt k.bits x &&& BitVec.ofInt k.bits y).toNat
def bOr (k : IntKind) (x y : Int) : Int := k.wrap (BitVec.ofInt k.bits x ||| BitVec.ofInt k.bits y).toNat
def bXor (k : IntKind) (x y : Int) : Int := k.wrap (BitVec.ofInt k.bits x ^^^ BitVec.ofInt k.bits y).toNat
def bAndNot (k : IntKind) (x y : Int) : Int := k.wrap (BitVec.ofInt k.bits x &&& ~~~ BitVec.ofInt k.bits y).toNat
def bShl (k : IntKind) (x y : Int) : Int := k.wrap (x * 2 ^ min y.toNat k.bits)
def bShr (k : IntKind) (x y : Int) : Int := x.fdiv (2 ^ min y.toNat k.bits)

section ints
variable {t1 t2 : TypeId} {x y : Operand} {k : IntKind} {m n : Int}
theorem bin_run (op : BinOp) (v : Value) (hx : opTy Γ x = some (tK k m)) (hy : opTy Γ y = some (tK k n)) (h : ∀ w, (binOp op t1 (.int k m) (.int k n)).run κ.P w = .ok v w) : Does κ ⟨dst, .binOp op t1 x y t2, ty, pos, after, gd⟩ Γ L (Ty.val v) :=
  does_of_run fun L' a w _ _ he => ⟨v, by
    have h1 : a.eval x = .int k m := opTy_holds he hx
    have h2 : a.eval y = .int k n := opTy_holds he hy
    have h3 : (eqGuard op t1 x y (a.eval x) (a.eval y)).run κ.P w = .ok () w := by
      rw [h1, h2]; unfold eqGuard; cases op <;> simp
    simp only [execOp, Sem.run_bind, h3, Result.andThen_ok]
    rw [h1, h2, h w]
    simp, rfl⟩
theorem does_add (hx : opTy Γ x = some (tK k m)) (hy : opTy Γ y = some (tK k n)) : Does κ ⟨dst, .binOp .add t1 x y t2, ty, pos, after, gd⟩ Γ L (tK k (k.wrap (m + n))) := bin_run _ _ hx hy fun w => by simp [binOp, Op.intArith]
theorem does_sub (hx : opTy Γ x = some (tK k m)) (hy : opTy Γ y = some (tK k n)) : Does κ ⟨dst, .binOp .sub t1 x y t2, ty, pos, after, gd⟩ Γ L (tK k (k.wrap (m - n))) := bin_run _ _ hx hy fun w => by simp [binOp, Op.intArith]
theorem does_mul (hx : opTy Γ x = some (tK k m)) (hy : opTy Γ y = some (tK k n)) : Does κ ⟨dst, .binOp .mul t1 x y t2, ty, pos, after, gd⟩ Γ L (tK k (k.wrap (m * n))) := bin_run _ _ hx hy fun w => by simp [binOp, Op.intArith]
theorem does_quo (hn : n ≠ 0) (hx : opTy Γ x = some (tK k m)) (hy : opTy Γ y = some (tK k n)) : Does κ ⟨dst, .binOp .quo t1 x y t2, ty, pos, after, gd⟩ Γ L (tK k (k.wrap (m.tdiv n))) := bin_run _ _ hx hy fun w => by simp [binOp, Op.intDiv, hn]
theorem does_rem (hn : n ≠ 0) (hx : opTy Γ x = some (tK k m)) (hy : opTy Γ y = some (tK k n)) : Does κ ⟨dst, .binOp .rem t1 x y t2, ty, pos, after, gd⟩ Γ L (tK k (m.tmod n)) := bin_run _ _ hx hy fun w => by simp [binOp, Op.intDiv, hn]
theorem does_and (hx : opTy Γ x = some (tK k m)) (hy : opTy Γ y = some (tK k n)) : Does κ ⟨dst, .binOp .and t1 x y t2, ty, pos, after, gd⟩ Γ L (tK k (bAnd k m n)) := bin_run _ _ hx hy fun w => by simp [binOp, Op.intBits, bAnd]
theorem does_or (hx : opTy Γ x = some (tK k m)) (hy : opTy Γ y = some (tK k n)) : Does κ ⟨dst, .binOp .or t1 x y t2, ty, pos, after, gd⟩ Γ L (tK k (bOr k m n)) := bin_run _ _ hx hy fun w => by simp [binOp, Op.intBits, bOr]
theorem does_xor (hx : opTy Γ x = some (tK k m)) (hy : opTy Γ y = some (tK k n)) : Does κ ⟨dst, .binOp .xor t1 x y t2, ty, pos, after, gd⟩ Γ L (tK k (bXor k m n)) := bin_run _ _ hx hy fun w => by simp [binOp, Op.intBits, bXor]
theorem does_andNot (hx : opTy Γ x = some (tK k m)) (hy : opTy Γ y = some (tK k n)) : Does κ ⟨dst, .binOp .andNot t1 x y t2, ty, pos, after, gd⟩ Γ L (tK k (bAndNot k m n)) := bin_run _ _ hx hy fun w => by simp [binOp, Op.intBits, bAndNot]
theorem does_eql (hx : opTy Γ x = some (tK k m)) (hy : opTy Γ y = some (tK k n)) : Does κ ⟨dst, .binOp .eql t1 x y t2, ty, pos, after, gd⟩ Γ L (tB (m == n)) := bin_run _ _ hx hy fun w => by simp [binOp, Op.intCmp]
theorem does_neq (hx : opTy Γ x = some (tK k m)) (hy : opTy Γ y = some (tK k n)) : Does κ ⟨dst, .binOp .neq t1 x y t2, ty, pos, after, gd⟩ Γ L (tB (m != n)) := bin_run _ _ hx hy fun w => by simp [binOp, Op.intCmp]
theorem does_lss (hx : opTy Γ x = some (tK k m)) (hy : opTy Γ y = some (tK k n)) : Does κ ⟨dst, .binOp .lss t1 x y t2, ty, pos, after, gd⟩ Γ L (tB (decide (m < n))) := bin_run _ _ hx hy fun w => by simp [binOp, Op.intCmp]
theorem does_leq (hx : opTy Γ x = some (tK k m)) (hy : opTy Γ y = some (tK k n)) : Does κ ⟨dst, .binOp .leq t1 x y t2, ty, pos, after, gd⟩ Γ L (tB (decide (m ≤ n))) := bin_run _ _ hx hy fun w => by simp [binOp, Op.intCmp]
theorem does_gtr (hx : opTy Γ x = some (tK k m)) (hy : opTy Γ y = some (tK k n)) : Does κ ⟨dst, .binOp .gtr t1 x y t2, ty, pos, after, gd⟩ Γ L (tB (decide (m > n))) := bin_run _ _ hx hy fun w => by simp [binOp, Op.intCmp]
theorem does_geq (hx : opTy Γ x = some (tK k m)) (hy : opTy Γ y = some (tK k n)) : Does κ ⟨dst, .binOp .geq t1 x y t2, ty, pos, after, gd⟩ Γ L (tB (decide (m ≥ n))) := bin_run _ _ hx hy fun w => by simp [binOp, Op.intCmp]
theorem does_shl {k2 : IntKind} (hn : 0 ≤ n) (hx : opTy Γ x = some (tK k m)) (hy : opTy Γ y = some (tK k2 n)) : Does κ ⟨dst, .binOp .shl t1 x y t2, ty, pos, after, gd⟩ Γ L (tK k (bShl k m n)) :=
  does_of_run fun L' a w _ _ he => ⟨_, by
    have h1 : a.eval x = .int k m := opTy_holds he hx
    have h2 : a.eval y = .int k2 n := opTy_holds he hy
    have h4 : ¬ n < 0 := by omega
    simp [execOp, eqGuard, h1, h2, binOp, Op.shift, h4]
    rfl, rfl⟩
theorem does_shr {k2 : IntKind} (hn : 0 ≤ n) (hx : opTy Γ x = some (tK k m)) (hy : opTy Γ y = some (tK k2 n)) : Does κ ⟨dst, .binOp .shr t1 x y t2, ty, pos, after, gd⟩ Γ L (tK k (bShr k m n)) :=
  does_of_run fun L' a w _ _ he => ⟨_, by
    have h1 : a.eval x = .int k m := opTy_holds he hx
    have h2 : a.eval y = .int k2 n := opTy_holds he hy
    have h4 : ¬ n < 0 := by omega
    simp [execOp, eqGuard, h1, h2, binOp, Op.shift, h4]
    rfl, rfl⟩
theorem does_not {b : Bool} (hx : opTy Γ x = some (tB b)) : Does κ ⟨dst, .unOp .not t1 x, ty, pos, after, gd⟩ Γ L (tB (!b)) :=
  does_of_run fun L' a w _ _ he => ⟨_, by
    have h1 : a.eval x = .bool b := opTy_holds he hx
    simp [execOp, h1, Op.unary], rfl⟩
theorem does_neg (hx : opTy Γ x = some (tK k m)) : Does κ ⟨dst, .unOp .neg t1 x, ty, pos, after, gd⟩ Γ L (tK k (k.wrap (0 - m))) :=
  does_of_run fun L' a w _ _ he => ⟨_, by
    have h1 : a.eval x = .int k m := opTy_holds he hx
    simp [execOp, h1, Op.unary, Op.intArith]
    rfl, by simp [Ty.val]⟩
theorem does_convert {k2 : IntKind} {d1 : TypeDesc} (h1 : κ.P.underlying t1 = some d1) (h2 : κ.P.underlying t2 = some (.int k2)) (hx : opTy Γ x = some (tK k m)) : Does κ ⟨dst, .convert t1 t2 x, ty, pos, after, gd⟩ Γ L (tK k2 (k2.wrap m)) :=
  does_of_run fun L' a w _ _ he => ⟨_, by
    have h0 : a.eval x = .int k m := opTy_holds he hx
    simp [execOp, h0, convert, run_underlying h1, run_underlying h2, Conv.intToInt], rfl⟩
theorem does_min {tys : Array TypeId} {k2 : IntKind} (hx : opTy Γ x = some (tK k m)) (hy : opTy Γ y = some (tK k2 n)) : Does κ ⟨dst, .call ⟨.builtin .min, #[x, y], tys⟩, ty, pos, after, gd⟩ Γ L (tK k (if n < m then n else m)) :=
  does_of_run fun L' a w _ _ he => ⟨_, by
    have h1 : a.eval x = .int k m := opTy_holds he hx
    have h2 : a.eval y = .int k2 n := opTy_holds he hy
    simp [execOp, resolve, invoke, builtin, Builtin.min_, h1, h2, Builtin.min2], rfl⟩
end ints
end
end Go.Proofs.YtocfnpnnbmicmaaDoor.Tc
