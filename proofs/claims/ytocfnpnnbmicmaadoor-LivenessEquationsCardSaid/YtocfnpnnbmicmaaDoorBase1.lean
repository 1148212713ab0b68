/- The typing calculus: what values read as (Ty), what a call owns (Item), what a step keeps (Le), and the rules for the forms of code. No program stands here. -/
import Derived.WalkKit
import Derived.Maps.AppendAt
import Derived.Deep.LoopGhost
import Derived.Orders
set_option linter.unusedVariables false
set_option linter.unusedSimpArgs false
namespace Go.Proofs.YtocfnpnnbmicmaaDoor.Tc
open Go

abbrev Fb := Nat → Prop

/-- Outside M nothing has changed from w to w', and what was outside M is outside M'. -/
structure Le (M : Fb) (w : World) (M' : Fb) (w' : World) : Prop where
  size : w.heap.size ≤ w'.heap.size
  os : w'.os = w.os
  tape : w'.tape = w.tape
  output : w'.output = w.output
  block : ∀ b, b < w.heap.size → ¬ M b → ¬ M' b ∧ w'.heap[b]? = w.heap[b]?

theorem Le.refl (M : Fb) (w : World) : Le M w M w := ⟨Nat.le_refl _, rfl, rfl, rfl, fun _ _ h => ⟨h, rfl⟩⟩
theorem Le.trans {M w M' w' M'' w''} (h : Le M w M' w') (k : Le M' w' M'' w'') : Le M w M'' w'' :=
  ⟨Nat.le_trans h.size k.size, k.os.trans h.os, k.tape.trans h.tape, k.output.trans h.output, fun b hb hm =>
    have h1 := h.block b hb hm
    have h2 := k.block b (Nat.lt_of_lt_of_le hb h.size) h1.1
    ⟨h2.1, h2.2.trans h1.2⟩⟩
theorem Le.drew (M : Fb) (w : World) : Le M w M w.drew := ⟨Nat.le_refl _, rfl, rfl, rfl, fun _ _ h => ⟨h, rfl⟩⟩
theorem Le.weak {M w M' w' M''} (h : Le M w M' w') (hs : ∀ b, M'' b → M' b) : Le M w M'' w' :=
  ⟨h.size, h.os, h.tape, h.output, fun b hb hm => ⟨fun hq => (h.block b hb hm).1 (hs b hq), (h.block b hb hm).2⟩⟩
theorem Le.strong {M N w M' w'} (h : Le M w M' w') (hs : ∀ b, M b → N b) : Le N w M' w' :=
  ⟨h.size, h.os, h.tape, h.output, fun b hb hm => h.block b hb (fun hq => hm (hs b hq))⟩
theorem Le.of_iff {M M' : Fb} (w : World) (h : ∀ b, M' b → M b) : Le M w M' w := ⟨Nat.le_refl _, rfl, rfl, rfl, fun b _ hm => ⟨fun hq => hm (h b hq), rfl⟩⟩

/-- What a value reads as. -/
structure Ty where
  holds : Fb → World → Value → Prop
  mono : ∀ {M w M' w' v}, holds M w v → Le M w M' w' → holds M' w' v

def Ty.val (v0 : Value) : Ty := ⟨fun _ _ v => v = v0, fun h _ => h⟩
abbrev tI (n : Int) : Ty := Ty.val (.int .i64 n)
abbrev tU (n : Int) : Ty := Ty.val (.int .u64 n)
abbrev tV (n : Int) : Ty := Ty.val (.int .u64 n)
abbrev tB (b : Bool) : Ty := Ty.val (.bool b)
abbrev tS (s : ByteArray) : Ty := Ty.val (.string s)
/-- A value of one cell that is known by its name alone. -/
def Ty.own (v0 : Value) : Ty := ⟨fun _ _ v => v = v0 ∧ v.oneCell' = true, fun h _ => h⟩

theorem add_block (a : Addr) (n : Nat) : (a.add n).block = a.block := by unfold Addr.add; split <;> rfl
theorem add_add (a : Addr) (i j : Nat) : (a.add i).add j = a.add (i + j) := by
  unfold Addr.add
  by_cases hi : i = 0 <;> by_cases hj : j = 0 <;> simp [hi, hj, Nat.add_assoc]
theorem add_zero (a : Addr) : a.add 0 = a := by simp [Addr.add]
theorem add_lit (g o j : Nat) : (⟨g, o, none⟩ : Addr).add j = ⟨g, o + j, none⟩ := by
  unfold Addr.add; split
  · rename_i h; subst h; rfl
  · rfl

/-- The cells at a read as ts; they lie outside M. -/
def PtAt (M : Fb) (w : World) (a : Addr) (ts : List Ty) : Prop :=
  ∀ (j : Nat) (t : Ty), ts[j]? = some t → ¬ M a.block ∧ ∃ v, w.cell? (a.add j) = some v ∧ v.oneCell' = true ∧ t.holds M w v

theorem cell_lt {w : World} {a : Addr} {v : Value} (h : w.cell? a = some v) : a.block < w.heap.size := World.block_lt_of_cell? w a h

theorem PtAt.mono {M w M' w' a ts} (h : PtAt M w a ts) (hl : Le M w M' w') : PtAt M' w' a ts := by
  intro j t ht
  obtain ⟨hm, v, hc, h1, hv⟩ := h j t ht
  have hb := cell_lt hc
  rw [add_block] at hb
  obtain ⟨hm', he⟩ := hl.block _ hb hm
  exact ⟨hm', v, by rw [World.cell?_of_block (w := w) (by rw [add_block]; exact he)]; exact hc, h1, t.mono hv hl⟩
theorem PtAt.drop {M w a ts} (h : PtAt M w a ts) (n : Nat) : PtAt M w (a.add n) (ts.drop n) := by
  intro j t ht
  rw [List.getElem?_drop] at ht
  obtain ⟨hm, v, hc, h1, hv⟩ := h _ t ht
  exact ⟨by rw [add_block]; exact hm, v, by rw [add_add]; exact hc, h1, hv⟩
theorem PtAt.take {M w a ts} (h : PtAt M w a ts) (n : Nat) : PtAt M w a (ts.take n) := by
  intro j t ht
  rw [List.getElem?_take] at ht
  split at ht
  · exact h j t ht
  · cases ht

def Ty.ptr (ts : List Ty) : Ty := ⟨fun M w v => ∃ a, v = .pointer (some a) ∧ PtAt M w a ts, fun ⟨a, e, h⟩ hl => ⟨a, e, h.mono hl⟩⟩

/-- A slice that is only read: element i's cells read as ess[i]. -/
def SlAt (sz : Nat) (ess : List (List Ty)) (M : Fb) (w : World) (v : Value) : Prop :=
  ∃ A c, v = .slice A ess.length c ∧ ess.length ≤ c ∧ (∀ (i : Nat) (es : List Ty), ess[i]? = some es → es.length = sz ∧ ∃ a, A = some a ∧ PtAt M w (a.add (i * sz)) es)
def Ty.slice (sz : Nat) (ess : List (List Ty)) : Ty :=
  ⟨SlAt sz ess, fun ⟨A, c, e, hc, h⟩ hl => ⟨A, c, e, hc, fun i es hi => by
    obtain ⟨h0, a, ha, hp⟩ := h i es hi
    exact ⟨h0, a, ha, hp.mono hl⟩⟩⟩
abbrev tL {α : Type} (sz : Nat) (f : α → List Ty) (l : List α) : Ty := Ty.slice sz (l.map f)
def lI (n : Int) : List Ty := [tI n]
def lB (b : Bool) : List Ty := [tB b]
def lU (n : Int) : List Ty := [tU n]
abbrev tIs (l : List Int) : Ty := tL 1 lI l
def lIs (l : List Int) : List Ty := [tIs l]
abbrev tIss (l : List (List Int)) : Ty := tL 1 lIs l

/-- An array of cells that reads as ts. -/
def ArrAt (ts : List Ty) (M : Fb) (w : World) (cs : Array Value) : Prop :=
  cs.size = ts.length ∧ ∀ (j : Nat) (t : Ty), ts[j]? = some t → ∃ u, cs[j]? = some u ∧ u.oneCell' = true ∧ t.holds M w u
theorem ArrAt.mono {ts M w M' w' cs} (h : ArrAt ts M w cs) (hl : Le M w M' w') : ArrAt ts M' w' cs :=
  ⟨h.1, fun j t ht => let ⟨u, hu, h1, hv⟩ := h.2 j t ht; ⟨u, hu, h1, t.mono hv hl⟩⟩
def Ty.agg (ts : List Ty) : Ty := ⟨fun M w v => ∃ cs, v = .agg cs ∧ ArrAt ts M w cs, fun ⟨cs, e, h⟩ hl => ⟨cs, e, h.mono hl⟩⟩
/-- Several results. -/
def Ty.tup (ts : List Ty) : Ty := ⟨fun M w v => ∃ cs : Array Value, v = .tuple cs ∧ cs.size = ts.length ∧ ∀ (j : Nat) (t : Ty), ts[j]? = some t → ∃ u, cs[j]? = some u ∧ t.holds M w u,
  fun ⟨cs, e, h0, h⟩ hl => ⟨cs, e, h0, fun j t ht => let ⟨u, hu, hv⟩ := h j t ht; ⟨u, hu, t.mono hv hl⟩⟩⟩

/-- What is of one cell. -/
def Ty.One (t : Ty) : Prop := ∀ M w v, t.holds M w v → v.oneCell' = true
theorem one_val {v : Value} (h : v.oneCell' = true) : (Ty.val v).One := fun _ _ _ e => by cases e; exact h
theorem one_i (n : Int) : (tI n).One := one_val rfl
theorem one_u (n : Int) : (tU n).One := one_val rfl
theorem one_b (b : Bool) : (tB b).One := one_val rfl
theorem one_s (s : ByteArray) : (tS s).One := one_val rfl
theorem one_own (v : Value) : (Ty.own v).One := fun _ _ _ e => e.2
theorem one_ptr (ts : List Ty) : (Ty.ptr ts).One := fun _ _ _ ⟨a, e, _⟩ => by subst e; rfl
theorem one_slice (sz : Nat) (ess : List (List Ty)) : (Ty.slice sz ess).One := fun _ _ _ ⟨A, c, e, _⟩ => by subst e; rfl

/-! ### What a call owns -/
structure Item where
  foot : Fb
  hold : Fb → World → Prop
  lt : ∀ {M w b}, hold M w → foot b → b < w.heap.size
  stable : ∀ {M w M' w'}, hold M w → (∀ b, b < w.heap.size → foot b → w'.heap[b]? = w.heap[b]?) → Le M w M' w' → hold M' w'

def foot (L : List Item) : Fb := fun b => ∃ it, it ∈ L ∧ it.foot b

/-- The variables of the program that are known: each with what it reads as. -/
abbrev Gl := List (Nat × Ty)

structure Holds (gl : Gl) (L : List Item) (w : World) : Prop where
  each : ∀ it, it ∈ L → it.hold (foot L) w
  apart : L.Pairwise (fun a b => ∀ x, a.foot x → b.foot x → False)
  glob : ∀ g t, (g, t) ∈ gl → PtAt (foot L) w ⟨g, 0, none⟩ [t]

theorem foot_lt {gl L w b} (h : Holds gl L w) (hb : foot L b) : b < w.heap.size := by
  obtain ⟨it, hi, hf⟩ := hb
  exact it.lt (h.each it hi) hf
theorem foot_perm {L L' : List Item} (h : L.Perm L') (b : Nat) : foot L b ↔ foot L' b :=
  ⟨fun ⟨it, hi, hf⟩ => ⟨it, h.mem_iff.1 hi, hf⟩, fun ⟨it, hi, hf⟩ => ⟨it, h.mem_iff.2 hi, hf⟩⟩
theorem le_perm {L L' : List Item} (h : L.Perm L') (w : World) : Le (foot L) w (foot L') w := Le.of_iff w fun b => (foot_perm h b).2
theorem Holds.perm {gl L L' w} (h : Holds gl L w) (hp : L.Perm L') : Holds gl L' w :=
  ⟨fun it hi => it.stable (h.each it (hp.mem_iff.2 hi)) (fun _ _ _ => rfl) (le_perm hp w),
   (hp.pairwise_iff (fun {a b} (hab : ∀ x, a.foot x → b.foot x → False) x hx hy => hab x hy hx)).1 h.apart,
   fun g t hg => (h.glob g t hg).mono (le_perm hp w)⟩
theorem Holds.drew {gl L w} (h : Holds gl L w) : Holds gl L w.drew :=
  ⟨fun it hi => it.stable (h.each it hi) (fun _ _ _ => rfl) (Le.drew _ w), h.apart, fun g t hg => (h.glob g t hg).mono (Le.drew _ w)⟩
/-- A world that has changed nothing of old. -/
theorem Holds.le {gl L w w'} (h : Holds gl L w) (hl : Le (foot L) w (foot L) w') (hk : ∀ b, b < w.heap.size → w'.heap[b]? = w.heap[b]?) : Holds gl L w' :=
  ⟨fun it hi => it.stable (h.each it hi) (fun b hb _ => hk b hb) hl, h.apart, fun g t hg => (h.glob g t hg).mono hl⟩
theorem foot_cons (i : Item) (L : List Item) (b : Nat) : foot (i :: L) b ↔ i.foot b ∨ foot L b := by simp [foot]
theorem foot_append (L L' : List Item) (b : Nat) : foot (L ++ L') b ↔ foot L b ∨ foot L' b := by
  simp only [foot, List.mem_append]
  constructor
  · rintro ⟨it, h | h, hf⟩
    · exact .inl ⟨it, h, hf⟩
    · exact .inr ⟨it, h, hf⟩
  · rintro (⟨it, h, hf⟩ | ⟨it, h, hf⟩)
    · exact ⟨it, .inl h, hf⟩
    · exact ⟨it, .inr h, hf⟩
theorem Holds.tail {gl i L w} (h : Holds gl (i :: L) w) : Holds gl L w := by
  have hl : Le (foot (i :: L)) w (foot L) w := Le.of_iff w fun b hb => (foot_cons i L b).2 (.inr hb)
  exact ⟨fun it hi => it.stable (h.each it (List.mem_cons_of_mem _ hi)) (fun _ _ _ => rfl) hl, (List.pairwise_cons.1 h.apart).2, fun g t hg => (h.glob g t hg).mono hl⟩
theorem Holds.drop_front {gl L w} : ∀ (l : List Item), Holds gl (l ++ L) w → Holds gl L w
  | [], h => h
  | _ :: l, h => Holds.drop_front l h.tail

/-- The head item is put in the place of another: the world changed at the old one's blocks alone; the new one's blocks are the old one's or new. -/
theorem Holds.swap {gl i i' L w w'} (h : Holds gl (i :: L) w) (hs : w.heap.size ≤ w'.heap.size) (ho : w'.os = w.os) (ht : w'.tape = w.tape) (hu : w'.output = w.output)
    (hk : ∀ b, b < w.heap.size → ¬ i.foot b → w'.heap[b]? = w.heap[b]?) (hf : ∀ b, i'.foot b → i.foot b ∨ w.heap.size ≤ b)
    (hi : ∀ M, Le (foot (i :: L)) w M w' → (∀ b, M b → foot (i' :: L) b) → (∀ b, foot (i' :: L) b → M b) → i'.hold M w') :
    Holds gl (i' :: L) w' ∧ Le (foot (i :: L)) w (foot (i' :: L)) w' := by
  have hfl : ∀ b, foot L b → b < w.heap.size := fun b hb => foot_lt h ((foot_cons i L b).2 (.inr hb))
  have hd : ∀ b, i.foot b → foot L b → False := fun b hb ⟨it, hit, hfb⟩ => (List.pairwise_cons.1 h.apart).1 it hit b hb hfb
  have hle : Le (foot (i :: L)) w (foot (i' :: L)) w' := ⟨hs, ho, ht, hu, fun b hb hm => by
    have h1 : ¬ i.foot b := fun hq => hm ((foot_cons i L b).2 (.inl hq))
    have h2 : ¬ foot L b := fun hq => hm ((foot_cons i L b).2 (.inr hq))
    refine ⟨fun hq => ?_, hk b hb h1⟩
    rcases (foot_cons i' L b).1 hq with hq | hq
    · rcases hf b hq with h3 | h3
      · exact h1 h3
      · omega
    · exact h2 hq⟩
  refine ⟨⟨fun it hit => ?_, List.pairwise_cons.2 ⟨fun it hit b hb hb' => ?_, (List.pairwise_cons.1 h.apart).2⟩, fun g t hg => (h.glob g t hg).mono hle⟩, hle⟩
  · rcases List.mem_cons.1 hit with rfl | hit
    · exact hi _ hle (fun _ h => h) (fun _ h => h)
    · exact it.stable (h.each it (List.mem_cons_of_mem _ hit)) (fun b hb hfb => hk b hb fun hq => hd b hq ⟨it, hit, hfb⟩) hle
  · have hL : foot L b := ⟨it, hit, hb'⟩
    rcases hf b hb with h3 | h3
    · exact hd b h3 hL
    · have := hfl b hL; omega

/-- A new item in front: its blocks are new. -/
theorem Holds.new {gl i' L w w'} (h : Holds gl L w) (hs : w.heap.size ≤ w'.heap.size) (ho : w'.os = w.os) (ht : w'.tape = w.tape) (hu : w'.output = w.output)
    (hk : ∀ b, b < w.heap.size → w'.heap[b]? = w.heap[b]?) (hf : ∀ b, i'.foot b → w.heap.size ≤ b)
    (hi : ∀ M, Le (foot L) w M w' → (∀ b, M b → foot (i' :: L) b) → (∀ b, foot (i' :: L) b → M b) → i'.hold M w') :
    Holds gl (i' :: L) w' ∧ Le (foot L) w (foot (i' :: L)) w' := by
  have hfl : ∀ b, foot L b → b < w.heap.size := fun b hb => foot_lt h hb
  have hle : Le (foot L) w (foot (i' :: L)) w' := ⟨hs, ho, ht, hu, fun b hb hm => by
    refine ⟨fun hq => ?_, hk b hb⟩
    rcases (foot_cons i' L b).1 hq with hq | hq
    · have := hf b hq; omega
    · exact hm hq⟩
  refine ⟨⟨fun it hit => ?_, List.pairwise_cons.2 ⟨fun it hit b hb hb' => ?_, h.apart⟩, fun g t hg => (h.glob g t hg).mono hle⟩, hle⟩
  · rcases List.mem_cons.1 hit with rfl | hit
    · exact hi _ hle (fun _ h => h) (fun _ h => h)
    · exact it.stable (h.each it hit) (fun b hb _ => hk b hb) hle
  · have := hf b hb
    have := hfl b ⟨it, hit, hb'⟩
    omega

/-! ### Items: a block of typed cells; a row that may be appended to -/
def BlkAt (g : Nat) (e : TypeId) (ts : List Ty) (M : Fb) (w : World) : Prop := ∃ cs, w.heap[g]? = some (.cells cs e (0, 0)) ∧ ArrAt ts M w cs
theorem lt_of_some {w : World} {g : Nat} {o : Obj} (h : w.heap[g]? = some o) : g < w.heap.size := (Array.getElem?_eq_some_iff.1 h).1
def Item.blk (g : Nat) (e : TypeId) (ts : List Ty) : Item :=
  ⟨fun b => b = g, BlkAt g e ts, fun ⟨cs, h, _⟩ hb => by subst hb; exact lt_of_some h,
   fun ⟨cs, h, ha⟩ hk hl => ⟨cs, (hk g (lt_of_some h) rfl).trans h, ha.mono hl⟩⟩

/-- The row's elements. -/
def ElsAt (sz : Nat) (ess : List (List Ty)) (M : Fb) (w : World) (cur : Array Value) : Prop :=
  ∀ (i : Nat) (es : List Ty), ess[i]? = some es → es.length = sz ∧ ∀ (j : Nat) (t : Ty), es[j]? = some t → ∃ u, cur[i * sz + j]? = some u ∧ u.oneCell' = true ∧ t.holds M w u
def RowAt (v : Value) (e : TypeId) (sz : Nat) (ess : List (List Ty)) (M : Fb) (w : World) : Prop :=
  (v = .slice none 0 0 ∧ ess = []) ∨
  ∃ g cap cur, v = .slice (some ⟨g, 0, none⟩) ess.length cap ∧ w.heap[g]? = some (.cells cur e (0, 0)) ∧ ess.length ≤ cap ∧ cap ≤ maxLen ∧ cur.size = cap * sz ∧ ElsAt sz ess M w cur
theorem ElsAt.mono {sz ess M w M' w' cur} (h : ElsAt sz ess M w cur) (hl : Le M w M' w') : ElsAt sz ess M' w' cur := fun i es hi =>
  ⟨(h i es hi).1, fun j t ht => let ⟨u, hu, h1, hv⟩ := (h i es hi).2 j t ht; ⟨u, hu, h1, t.mono hv hl⟩⟩
def Item.row (v : Value) (e : TypeId) (sz : Nat) (ess : List (List Ty)) : Item :=
  ⟨fun b => v.ownBlock = some b, RowAt v e sz ess,
   fun h hb => by
    rcases h with ⟨rfl, _⟩ | ⟨g, cap, cur, rfl, hg, _⟩
    · simp [Value.ownBlock] at hb
    · simp only [Value.ownBlock, Option.some.injEq] at hb; subst hb; exact lt_of_some hg,
   fun h hk hl => by
    rcases h with h | ⟨g, cap, cur, rfl, hg, h1, h2, h3, h4⟩
    · exact .inl h
    · exact .inr ⟨g, cap, cur, rfl, (hk g (lt_of_some hg) rfl).trans hg, h1, h2, h3, h4.mono hl⟩⟩
abbrev rowL {α : Type} (v : Value) (e : TypeId) (sz : Nat) (f : α → List Ty) (l : List α) : Item := Item.row v e sz (l.map f)

/-! ### Contexts -/
abbrev Cx := List (Nat × Ty)
def Cx.look : Cx → Nat → Option Ty
  | [], _ => none
  | (k, t) :: r, i => if k = i then some t else Cx.look r i

/-- What is fixed while a function runs. -/
structure Kx where
  P : Program
  gl : Gl
  n : Nat
  L0 : List Item
  w0 : World

def EnvOk (Γ : Cx) (L : List Item) (tmps : Array Value) (w : World) : Prop := ∀ t T, Γ.look t = some T → T.holds (foot L) w (tmps.getD t undef)

structure Sat (κ : Kx) (Γ : Cx) (L : List Item) (a : Act) (w : World) : Prop where
  defers : a.defers = []
  size : a.tmps.size = κ.n
  holds : Holds κ.gl L w
  le : Le (foot κ.L0) κ.w0 (foot L) w
  env : EnvOk Γ L a.tmps w

theorem EnvOk.le {Γ L L' tmps w w'} (h : EnvOk Γ L tmps w) (hl : Le (foot L) w (foot L') w') : EnvOk Γ L' tmps w' := fun t T ht => T.mono (h t T ht) hl

abbrev Post := Exit → Act → World → Prop
def OkC (κ : Kx) (c : Code) (Q : Post) (Γ : Cx) (L : List Item) : Prop := ∀ a w, Sat κ Γ L a w → c.wp κ.P Q a w
def OkX (κ : Kx) (Q : Post) (x : Exit) (Γ : Cx) (L : List Item) : Prop := ∀ a w, Sat κ Γ L a w → Q x a w
def OkL (κ : Kx) (ops : Array Oper) (Q : Post) (l : List Oper) (Γ : Cx) (L : List Item) : Prop := ∀ a w, Sat κ Γ L a w → wpList κ.P ops Q l a w

section
variable {κ : Kx} {Q : Post} {Γ Γ' : Cx} {L L' : List Item}

/-- Γ tells all that Γ' asks. -/
def Cov (Γ : Cx) : Cx → Prop
  | [] => True
  | (k, t) :: r => Γ.look k = some t ∧ Cov Γ r
theorem Cov.look {Γ : Cx} : ∀ {Γ' : Cx}, Cov Γ Γ' → ∀ {t T}, Γ'.look t = some T → Γ.look t = some T
  | [], _, _, _, h => by cases h
  | (k, u) :: r, h, t, T, hl => by
    simp only [Cx.look] at hl
    split at hl
    · rename_i hk; cases hl; subst hk; exact h.1
    · exact Cov.look h.2 hl
theorem Sat.cov {a w} (h : Sat κ Γ L a w) (hc : Cov Γ Γ') : Sat κ Γ' L a w := ⟨h.defers, h.size, h.holds, h.le, fun t T ht => h.env t T (hc.look ht)⟩
theorem Sat.perm {a w} (h : Sat κ Γ L a w) (hp : L.Perm L') : Sat κ Γ L' a w :=
  ⟨h.defers, h.size, h.holds.perm hp, h.le.trans (le_perm hp w), h.env.le (le_perm hp w)⟩
theorem Sat.tail {a w i} (h : Sat κ Γ (i :: L) a w) : Sat κ Γ L a w := by
  have hl : Le (foot (i :: L)) w (foot L) w := Le.of_iff w fun b hb => (foot_cons i L b).2 (.inr hb)
  exact ⟨h.defers, h.size, h.holds.tail, h.le.trans hl, h.env.le hl⟩

theorem okC_cov {c} (Γ' : Cx) (hc : Cov Γ Γ') (h : OkC κ c Q Γ' L) : OkC κ c Q Γ L := fun a w s => h a w (s.cov hc)
theorem okX_cov {x} (Γ' : Cx) (hc : Cov Γ Γ') (h : OkX κ Q x Γ' L) : OkX κ Q x Γ L := fun a w s => h a w (s.cov hc)
theorem okC_perm {c} (L' : List Item) (hp : L.Perm L') (h : OkC κ c Q Γ L') : OkC κ c Q Γ L := fun a w s => h a w (s.perm hp)
theorem okX_perm {x} (L' : List Item) (hp : L.Perm L') (h : OkX κ Q x Γ L') : OkX κ Q x Γ L := fun a w s => h a w (s.perm hp)
theorem okL_perm {ops l} (L' : List Item) (hp : L.Perm L') (h : OkL κ ops Q l Γ L') : OkL κ ops Q l Γ L := fun a w s => h a w (s.perm hp)

/-- One entry is taken for less than it says. -/
def Sub (T T' : Ty) : Prop := ∀ M w v, T.holds M w v → T'.holds M w v
theorem Sat.sub {a w t T} (h : Sat κ Γ L a w) (T' : Ty) (ht : Γ.look t = some T) (hs : Sub T T') : Sat κ ((t, T') :: Γ) L a w :=
  ⟨h.defers, h.size, h.holds, h.le, fun i U hi => by
    simp only [Cx.look] at hi
    split at hi
    · rename_i hk; cases hi; subst hk; exact hs _ _ _ (h.env _ _ ht)
    · exact h.env _ _ hi⟩
theorem okC_sub {c} (t : Nat) {T} (T' : Ty) (ht : Γ.look t = some T) (hs : Sub T T') (h : OkC κ c Q ((t, T') :: Γ) L) : OkC κ c Q Γ L := fun a w s => h a w (s.sub T' ht hs)
theorem okL_sub {ops l} (t : Nat) {T} (T' : Ty) (ht : Γ.look t = some T) (hs : Sub T T') (h : OkL κ ops Q l ((t, T') :: Γ) L) : OkL κ ops Q l Γ L := fun a w s => h a w (s.sub T' ht hs)
theorem okX_sub {x} (t : Nat) {T} (T' : Ty) (ht : Γ.look t = some T) (hs : Sub T T') (h : OkX κ Q x ((t, T') :: Γ) L) : OkX κ Q x Γ L := fun a w s => h a w (s.sub T' ht hs)
theorem sub_nil (sz : Nat) : Sub (Ty.val (.slice none 0 0)) (Ty.slice sz []) := fun _ _ _ e => by
  cases e
  exact ⟨none, 0, rfl, Nat.le_refl _, fun i es hi => by cases i <;> cases hi⟩

/-! ### Code -/
theorem okC_seq {x y : Code} (h : OkC κ x (Exit.then (y.wp κ.P Q) Q) Γ L) : OkC κ (.seq x y) Q Γ L := fun a w s => wp_seq (h a w s)
theorem okX_next {y : Code} (h : OkC κ y Q Γ L) : OkX κ (Exit.then (y.wp κ.P Q) Q) .normal Γ L := fun a w s => h a w s
theorem okX_then_exit {next : Act → World → Prop} {id : Nat} (h : OkX κ Q (.exit id) Γ L) : OkX κ (Exit.then next Q) (.exit id) Γ L := fun a w s => h a w s
theorem okX_then_ret {next : Act → World → Prop} (h : OkX κ Q .ret Γ L) : OkX κ (Exit.then next Q) .ret Γ L := fun a w s => h a w s
theorem okC_skip (h : OkX κ Q .normal Γ L) : OkC κ .skip Q Γ L := fun a w s => wp_skip (h a w s)
theorem okC_ret (h : OkX κ Q .ret Γ L) : OkC κ .ret Q Γ L := fun a w s => wp_ret (h a w s)
theorem okC_exit {id : Nat} (h : OkX κ Q (.exit id) Γ L) : OkC κ (.exit id) Q Γ L := fun a w s => wp_exit (h a w s)
theorem okC_block {id : Nat} {c : Code} (h : OkC κ c (Exit.inBlock id Q) Γ L) : OkC κ (.block id c) Q Γ L := fun a w s => wp_block (h a w s)
theorem okX_block_normal {id : Nat} (h : OkX κ Q .normal Γ L) : OkX κ (Exit.inBlock id Q) .normal Γ L := fun a w s => h a w s
theorem okX_block_ret {id : Nat} (h : OkX κ Q .ret Γ L) : OkX κ (Exit.inBlock id Q) .ret Γ L := fun a w s => h a w s
theorem okX_block_hit {id : Nat} (h : OkX κ Q .normal Γ L) : OkX κ (Exit.inBlock id Q) (.exit id) Γ L := fun a w s => by
  show (if id = id then Q .normal a w else Q (.exit id) a w)
  rw [if_pos rfl]; exact h a w s
theorem okX_block_miss {id i : Nat} (hne : i ≠ id) (h : OkX κ Q (.exit i) Γ L) : OkX κ (Exit.inBlock id Q) (.exit i) Γ L := fun a w s => by
  show (if i = id then Q .normal a w else Q (.exit i) a w)
  rw [if_neg hne]; exact h a w s

def opTy (Γ : Cx) : Operand → Option Ty
  | .tmp t => Γ.look t
  | .const v => some (Ty.val v)
  | .global g => some (Ty.val (.pointer (some ⟨g, 0, none⟩)))
  | .func f => some (Ty.val (.func (.func f) #[] #[]))
theorem opTy_holds {a : Act} {w : World} {T : Ty} (h : EnvOk Γ L a.tmps w) {x : Operand} (hx : opTy Γ x = some T) : T.holds (foot L) w (a.eval x) := by
  cases x with
  | tmp t => exact h t T hx
  | const v => cases hx; exact rfl
  | global g => cases hx; exact rfl
  | func f => cases hx; exact rfl

theorem okC_cond {c : Operand} {x y : Code} {b : Bool} (hb : opTy Γ c = some (tB b)) (ht : b = true → OkC κ x Q Γ L) (hf : b = false → OkC κ y Q Γ L) : OkC κ (.cond c x y) Q Γ L := fun a w s =>
  wp_cond_split (t := b) (opTy_holds s.env hb) (fun h => ht h a w s) (fun h => hf h a w s)
theorem okC_true {c : Operand} {x y : Code} (hb : opTy Γ c = some (tB true)) (h : OkC κ x Q Γ L) : OkC κ (.cond c x y) Q Γ L := okC_cond hb (fun _ => h) (fun h => by cases h)
theorem okC_false {c : Operand} {x y : Code} (hb : opTy Γ c = some (tB false)) (h : OkC κ y Q Γ L) : OkC κ (.cond c x y) Q Γ L := okC_cond hb (fun h => by cases h) (fun _ => h)

/-- A loop: its state is told by x; k bounds the rounds. -/
def Again {X : Type} (κ : Kx) (I : Nat → X → Prop) (G : X → Cx) (Lf : X → List Item) (k : Nat) : Act → World → Prop :=
  fun a w => ∃ k', k' < k ∧ ∃ x, I k' x ∧ Sat κ (G x) (Lf x) a w
theorem okC_loop {X : Type} {c : Code} (I : Nat → X → Prop) (G : X → Cx) (Lf : X → List Item) (k0 : Nat) (x0 : X) (h0 : I k0 x0) (hc : Cov Γ (G x0)) (hL : L = Lf x0)
    (round : ∀ k x, I k x → OkC κ c (Exit.then (Again κ I G Lf k) Q) (G x) (Lf x)) : OkC κ (.loop c) Q Γ L := fun a w s => by
  refine wp_loop_ghost (fun k a w => ∃ x, I k x ∧ Sat κ (G x) (Lf x) a w) k0 ⟨x0, h0, hL ▸ s.cov hc⟩ ?_
  intro k a w ⟨x, hx, hs⟩
  exact round k x hx a w hs
theorem okX_again {X : Type} {I : Nat → X → Prop} {G : X → Cx} {Lf : X → List Item} {k : Nat} (k' : Nat) (hk : k' < k) (x : X) (hx : I k' x) (hc : Cov Γ (G x)) (hL : L = Lf x) :
    OkX κ (Exit.then (Again κ I G Lf k) Q) .normal Γ L := fun a w s => ⟨k', hk, x, hx, hL ▸ s.cov hc⟩
/-- Ways meet again: what is told of the state there. -/
def Meet {X : Type} (κ : Kx) (I : X → Prop) (G : X → Cx) (Lf : X → List Item) : Act → World → Prop := fun a w => ∃ x, I x ∧ Sat κ (G x) (Lf x) a w
theorem okC_meet {X : Type} {x y : Code} (I : X → Prop) (G : X → Cx) (Lf : X → List Item) (h : OkC κ x (Exit.then (Meet κ I G Lf) Q) Γ L) (hy : ∀ x, I x → OkC κ y Q (G x) (Lf x)) :
    OkC κ (.seq x y) Q Γ L := fun a w s => by
  refine wp_seq (wp_mono (h a w s) ?_)
  intro e a' w' hq
  cases e with
  | normal => obtain ⟨x, hx, hs⟩ := hq; exact hy x hx a' w' hs
  | _ => exact hq
theorem okX_meet {X : Type} {I : X → Prop} {G : X → Cx} {Lf : X → List Item} (x : X) (hx : I x) (hc : Cov Γ (G x)) (hL : L = Lf x) : OkX κ (Exit.then (Meet κ I G Lf) Q) .normal Γ L := fun a w s => ⟨x, hx, hL ▸ s.cov hc⟩
theorem okX_meet_exit {X : Type} {I : X → Prop} {G : X → Cx} {Lf : X → List Item} {id : Nat} (h : OkX κ Q (.exit id) Γ L) : OkX κ (Exit.then (Meet κ I G Lf) Q) (.exit id) Γ L := fun a w s => h a w s
theorem okX_meet_ret {X : Type} {I : X → Prop} {G : X → Cx} {Lf : X → List Item} (h : OkX κ Q .ret Γ L) : OkX κ (Exit.then (Meet κ I G Lf) Q) .ret Γ L := fun a w s => h a w s
theorem okX_again_exit {X : Type} {I : Nat → X → Prop} {G : X → Cx} {Lf : X → List Item} {k id : Nat} (h : OkX κ Q (.exit id) Γ L) : OkX κ (Exit.then (Again κ I G Lf k) Q) (.exit id) Γ L := fun a w s => h a w s
theorem okX_again_ret {X : Type} {I : Nat → X → Prop} {G : X → Cx} {Lf : X → List Item} {k : Nat} (h : OkX κ Q .ret Γ L) : OkX κ (Exit.then (Again κ I G Lf k) Q) .ret Γ L := fun a w s => h a w s
end
end Go.Proofs.YtocfnpnnbmicmaaDoor.Tc
