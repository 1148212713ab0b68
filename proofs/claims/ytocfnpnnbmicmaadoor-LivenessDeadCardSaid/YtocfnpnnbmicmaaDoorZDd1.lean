/- The typing calculus: what values read as, what a call owns, what a step keeps, the rules for the forms of code. -/
import Derived.WalkKit
import Derived.Maps.AppendAt
import Derived.Deep.LoopGhost
import Derived.Orders
import Derived.StillTail
import Derived.Laws.CopyRow
import Derived.Laws.StructEq
import Derived.MapKept
import Derived.Carry
section
set_option linter.unusedVariables false
set_option linter.unusedSimpArgs false
namespace Go.Proofs.YtocfnpnnbmicmaaDoor.Tc
open Go
abbrev Fb := Nat → Prop
structure Le (M : Fb) (w : World) (M' : Fb) (w' : World) : Prop where
 size : w.heap.size ≤ w'.heap.size
 os : w'.os = w.os
 tape : w'.tape = w.tape
 output : w'.output = w.output
 block : ∀ b, b < w.heap.size → ¬ M b → ¬ M' b ∧ w'.heap[b]? = w.heap[b]?
theorem Le.refl (M : Fb) (w : World) : Le M w M w := ⟨Nat.le_refl _, rfl, rfl, rfl, fun _ _ h => ⟨h, rfl⟩⟩
theorem Le.trans {M w M' w' M'' w''} (h : Le M w M' w') (k : Le M' w' M'' w'') : Le M w M'' w'' :=
 ⟨Nat.le_trans h.size k.size, k.os.trans h.os, k.tape.trans h.tape, k.output.trans h.output, fun b hb hm =>
  have h1 := h.block b hb hm
  have h2 := k.block b (Nat.lt_of_lt_of_le hb h.size) h1.1
  ⟨h2.1, h2.2.trans h1.2⟩⟩
theorem Le.drew (M : Fb) (w : World) : Le M w M w.drew := ⟨Nat.le_refl _, rfl, rfl, rfl, fun _ _ h => ⟨h, rfl⟩⟩
theorem Le.of_iff {M M' : Fb} (w : World) (h : ∀ b, M' b → M b) : Le M w M' w := ⟨Nat.le_refl _, rfl, rfl, rfl, fun b _ hm => ⟨fun hq => hm (h b hq), rfl⟩⟩
structure Ty where
 holds : Fb → World → Value → Prop
 mono : ∀ {M w M' w' v}, holds M w v → Le M w M' w' → holds M' w' v
def Ty.val (v0 : Value) : Ty := ⟨fun _ _ v => v = v0, fun h _ => h⟩
abbrev tI (n : Int) : Ty := Ty.val (.int .i64 n)
abbrev tU (n : Int) : Ty := Ty.val (.int .u64 n)
abbrev tB (b : Bool) : Ty := Ty.val (.bool b)
abbrev tS (s : ByteArray) : Ty := Ty.val (.string s)
def Ty.own (v0 : Value) : Ty := ⟨fun _ _ v => v = v0 ∧ v.oneCell' = true, fun h _ => h⟩
theorem add_block (a : Addr) (n : Nat) : (a.add n).block = a.block := by unfold Addr.add; split <;> rfl
theorem add_add (a : Addr) (i j : Nat) : (a.add i).add j = a.add (i + j) := by
 unfold Addr.add
 by_cases hi : i = 0 <;> by_cases hj : j = 0 <;> simp [hi, hj, Nat.add_assoc]
theorem add_zero (a : Addr) : a.add 0 = a := by simp [Addr.add]
theorem add_lit (g o j : Nat) : (⟨g, o, none⟩ : Addr).add j = ⟨g, o + j, none⟩ := by
 unfold Addr.add; split
 ·rename_i h; subst h; rfl
 ·rfl
def PtAt (M : Fb) (w : World) (a : Addr) (ts : List Ty) : Prop :=
 ∀ (j : Nat) (t : Ty), ts[j]? = some t → ¬ M a.block ∧ ∃ v, w.cell? (a.add j) = some v ∧ v.oneCell' = true ∧ t.holds M w v
theorem cell_lt {w : World} {a : Addr} {v : Value} (h : w.cell? a = some v) : a.block < w.heap.size := World.block_lt_of_cell? w a h
theorem PtAt.mono {M w M' w' a ts} (h : PtAt M w a ts) (hl : Le M w M' w') : PtAt M' w' a ts := by
 intro j t ht
 obtain ⟨hm, v, hc, h1, hv⟩ := h j t ht
 have hb := cell_lt hc
 rw [add_block] at hb
 obtain ⟨hm', he⟩ := hl.block _ hb hm
 exact ⟨hm', v, by rw [World.cell?_of_block (w := w) (by rw [add_block]; exact he)]; exact hc, h1, t.mono hv hl⟩
theorem PtAt.drop {M w a ts} (h : PtAt M w a ts) (n : Nat) : PtAt M w (a.add n) (ts.drop n) := by
 intro j t ht
 rw [List.getElem?_drop] at ht
 obtain ⟨hm, v, hc, h1, hv⟩ := h _ t ht
 exact ⟨by rw [add_block]; exact hm, v, by rw [add_add]; exact hc, h1, hv⟩
theorem PtAt.take {M w a ts} (h : PtAt M w a ts) (n : Nat) : PtAt M w a (ts.take n) := by
 intro j t ht
 rw [List.getElem?_take] at ht
 split at ht
 ·exact h j t ht
 ·cases ht
def Ty.ptr (ts : List Ty) : Ty := ⟨fun M w v => ∃ a, v = .pointer (some a) ∧ PtAt M w a ts, fun ⟨a, e, h⟩ hl => ⟨a, e, h.mono hl⟩⟩
def SlAt (sz : Nat) (ess : List (List Ty)) (M : Fb) (w : World) (v : Value) : Prop :=
 ∃ A c, v = .slice A ess.length c ∧ ess.length ≤ c ∧ (∀ (i : Nat) (es : List Ty), ess[i]? = some es → es.length = sz ∧ ∃ a, A = some a ∧ PtAt M w (a.add (i * sz)) es)
def Ty.slice (sz : Nat) (ess : List (List Ty)) : Ty :=
 ⟨SlAt sz ess, fun ⟨A, c, e, hc, h⟩ hl => ⟨A, c, e, hc, fun i es hi => by
  obtain ⟨h0, a, ha, hp⟩ := h i es hi
  exact ⟨h0, a, ha, hp.mono hl⟩⟩⟩
abbrev tL {α : Type} (sz : Nat) (f : α → List Ty) (l : List α) : Ty := Ty.slice sz (l.map f)
def lI (n : Int) : List Ty := [tI n]
def lB (b : Bool) : List Ty := [tB b]
def lU (n : Int) : List Ty := [tU n]
abbrev tIs (l : List Int) : Ty := tL 1 lI l
def lIs (l : List Int) : List Ty := [tIs l]
def ArrAt (ts : List Ty) (M : Fb) (w : World) (cs : Array Value) : Prop :=
 cs.size = ts.length ∧ ∀ (j : Nat) (t : Ty), ts[j]? = some t → ∃ u, cs[j]? = some u ∧ u.oneCell' = true ∧ t.holds M w u
theorem ArrAt.mono {ts M w M' w' cs} (h : ArrAt ts M w cs) (hl : Le M w M' w') : ArrAt ts M' w' cs :=
 ⟨h.1, fun j t ht => let ⟨u, hu, h1, hv⟩ := h.2 j t ht; ⟨u, hu, h1, t.mono hv hl⟩⟩
def Ty.agg (ts : List Ty) : Ty := ⟨fun M w v => ∃ cs, v = .agg cs ∧ ArrAt ts M w cs, fun ⟨cs, e, h⟩ hl => ⟨cs, e, h.mono hl⟩⟩
def Ty.tup (ts : List Ty) : Ty := ⟨fun M w v => ∃ cs : Array Value, v = .tuple cs ∧ cs.size = ts.length ∧ ∀ (j : Nat) (t : Ty), ts[j]? = some t → ∃ u, cs[j]? = some u ∧ t.holds M w u,
 fun ⟨cs, e, h0, h⟩ hl => ⟨cs, e, h0, fun j t ht => let ⟨u, hu, hv⟩ := h j t ht; ⟨u, hu, t.mono hv hl⟩⟩⟩
def Ty.One (t : Ty) : Prop := ∀ M w v, t.holds M w v → v.oneCell' = true
theorem one_val {v : Value} (h : v.oneCell' = true) : (Ty.val v).One := fun _ _ _ e => by cases e; exact h
theorem one_i (n : Int) : (tI n).One := one_val rfl
theorem one_b (b : Bool) : (tB b).One := one_val rfl
theorem one_s (s : ByteArray) : (tS s).One := one_val rfl
theorem one_own (v : Value) : (Ty.own v).One := fun _ _ _ e => e.2
theorem one_slice (sz : Nat) (ess : List (List Ty)) : (Ty.slice sz ess).One := fun _ _ _ ⟨A, c, e, _⟩ => by subst e; rfl
structure Item where
 foot : Fb
 hold : Fb → World → Prop
 lt : ∀ {M w b}, hold M w → foot b → b < w.heap.size
 stable : ∀ {M w M' w'}, hold M w → (∀ b, b < w.heap.size → foot b → w'.heap[b]? = w.heap[b]?) → Le M w M' w' → hold M' w'
def foot (L : List Item) : Fb := fun b => ∃ it, it ∈ L ∧ it.foot b
abbrev Gl := List (Nat × Ty)
structure Holds (gl : Gl) (L : List Item) (w : World) : Prop where
 each : ∀ it, it ∈ L → it.hold (foot L) w
 apart : L.Pairwise (fun a b => ∀ x, a.foot x → b.foot x → False)
 glob : ∀ g t, (g, t) ∈ gl → PtAt (foot L) w ⟨g, 0, none⟩ [t]
theorem foot_lt {gl L w b} (h : Holds gl L w) (hb : foot L b) : b < w.heap.size := by
 obtain ⟨it, hi, hf⟩ := hb
 exact it.lt (h.each it hi) hf
theorem foot_perm {L L' : List Item} (h : L.Perm L') (b : Nat) : foot L b ↔ foot L' b :=
 ⟨fun ⟨it, hi, hf⟩ => ⟨it, h.mem_iff.1 hi, hf⟩, fun ⟨it, hi, hf⟩ => ⟨it, h.mem_iff.2 hi, hf⟩⟩
theorem le_perm {L L' : List Item} (h : L.Perm L') (w : World) : Le (foot L) w (foot L') w := Le.of_iff w fun b => (foot_perm h b).2
theorem Holds.perm {gl L L' w} (h : Holds gl L w) (hp : L.Perm L') : Holds gl L' w :=
  ⟨fun it hi => it.stable (h.each it (hp.mem_iff.2 hi)) (fun _ _ _ => rfl) (le_perm hp w),
   (hp.pairwise_iff (fun {a b} (hab : ∀ x, a.foot x → b.foot x → False) x hx hy => hab x hy hx)).1 h.apart,
   fun g t hg => (h.glob g t hg).mono (le_perm hp w)⟩
theorem Holds.drew {gl L w} (h : Holds gl L w) : Holds gl L w.drew :=
 ⟨fun it hi => it.stable (h.each it hi) (fun _ _ _ => rfl) (Le.drew _ w), h.apart, fun g t hg => (h.glob g t hg).mono (Le.drew _ w)⟩
theorem Holds.le {gl L w w'} (h : Holds gl L w) (hl : Le (foot L) w (foot L) w') (hk : ∀ b, b < w.heap.size → w'.heap[b]? = w.heap[b]?) : Holds gl L w' :=
 ⟨fun it hi => it.stable (h.each it hi) (fun b hb _ => hk b hb) hl, h.apart, fun g t hg => (h.glob g t hg).mono hl⟩
theorem foot_cons (i : Item) (L : List Item) (b : Nat) : foot (i :: L) b ↔ i.foot b ∨ foot L b := by simp [foot]
theorem foot_append (L L' : List Item) (b : Nat) : foot (L ++ L') b ↔ foot L b ∨ foot L' b := by
 simp only [foot, List.mem_append]
 constructor
 ·rintro ⟨it, h | h, hf⟩
  ·exact .inl ⟨it, h, hf⟩
  ·exact .inr ⟨it, h, hf⟩
 ·rintro (⟨it, h, hf⟩ | ⟨it, h, hf⟩)
  ·exact ⟨it, .inl h, hf⟩
  ·exact ⟨it, .inr h, hf⟩
theorem Holds.tail {gl i L w} (h : Holds gl (i :: L) w) : Holds gl L w := by
 have hl : Le (foot (i :: L)) w (foot L) w := Le.of_iff w fun b hb => (foot_cons i L b).2 (.inr hb)
 exact ⟨fun it hi => it.stable (h.each it (List.mem_cons_of_mem _ hi)) (fun _ _ _ => rfl) hl, (List.pairwise_cons.1 h.apart).2, fun g t hg => (h.glob g t hg).mono hl⟩
theorem Holds.drop_front {gl L w} : ∀ (l : List Item), Holds gl (l ++ L) w → Holds gl L w
 | [], h => h
 | _ :: l, h => Holds.drop_front l h.tail
theorem Holds.swap {gl i i' L w w'} (h : Holds gl (i :: L) w) (hs : w.heap.size ≤ w'.heap.size) (ho : w'.os = w.os) (ht : w'.tape = w.tape) (hu : w'.output = w.output)
  (hk : ∀ b, b < w.heap.size → ¬ i.foot b → w'.heap[b]? = w.heap[b]?) (hf : ∀ b, i'.foot b → i.foot b ∨ w.heap.size ≤ b)
  (hi : ∀ M, Le (foot (i :: L)) w M w' → (∀ b, M b → foot (i' :: L) b) → (∀ b, foot (i' :: L) b → M b) → i'.hold M w') :
  Holds gl (i' :: L) w' ∧ Le (foot (i :: L)) w (foot (i' :: L)) w' := by
 have hfl : ∀ b, foot L b → b < w.heap.size := fun b hb => foot_lt h ((foot_cons i L b).2 (.inr hb))
 have hd : ∀ b, i.foot b → foot L b → False := fun b hb ⟨it, hit, hfb⟩ => (List.pairwise_cons.1 h.apart).1 it hit b hb hfb
 have hle : Le (foot (i :: L)) w (foot (i' :: L)) w' := ⟨hs, ho, ht, hu, fun b hb hm => by
  have h1 : ¬ i.foot b := fun hq => hm ((foot_cons i L b).2 (.inl hq))
  have h2 : ¬ foot L b := fun hq => hm ((foot_cons i L b).2 (.inr hq))
  refine ⟨fun hq => ?_, hk b hb h1⟩
  rcases (foot_cons i' L b).1 hq with hq | hq
  ·rcases hf b hq with h3 | h3
   ·exact h1 h3
   ·omega
  ·exact h2 hq⟩
 refine ⟨⟨fun it hit => ?_, List.pairwise_cons.2 ⟨fun it hit b hb hb' => ?_, (List.pairwise_cons.1 h.apart).2⟩, fun g t hg => (h.glob g t hg).mono hle⟩, hle⟩
 ·rcases List.mem_cons.1 hit with rfl | hit
  ·exact hi _ hle (fun _ h => h) (fun _ h => h)
  ·exact it.stable (h.each it (List.mem_cons_of_mem _ hit)) (fun b hb hfb => hk b hb fun hq => hd b hq ⟨it, hit, hfb⟩) hle
 ·have hL : foot L b := ⟨it, hit, hb'⟩
  rcases hf b hb with h3 | h3
  ·exact hd b h3 hL
  ·have := hfl b hL; omega
theorem Holds.new {gl i' L w w'} (h : Holds gl L w) (hs : w.heap.size ≤ w'.heap.size) (ho : w'.os = w.os) (ht : w'.tape = w.tape) (hu : w'.output = w.output)
  (hk : ∀ b, b < w.heap.size → w'.heap[b]? = w.heap[b]?) (hf : ∀ b, i'.foot b → w.heap.size ≤ b)
  (hi : ∀ M, Le (foot L) w M w' → (∀ b, M b → foot (i' :: L) b) → (∀ b, foot (i' :: L) b → M b) → i'.hold M w') :
  Holds gl (i' :: L) w' ∧ Le (foot L) w (foot (i' :: L)) w' := by
 have hfl : ∀ b, foot L b → b < w.heap.size := fun b hb => foot_lt h hb
 have hle : Le (foot L) w (foot (i' :: L)) w' := ⟨hs, ho, ht, hu, fun b hb hm => by
  refine ⟨fun hq => ?_, hk b hb⟩
  rcases (foot_cons i' L b).1 hq with hq | hq
  ·have := hf b hq; omega
  ·exact hm hq⟩
 refine ⟨⟨fun it hit => ?_, List.pairwise_cons.2 ⟨fun it hit b hb hb' => ?_, h.apart⟩, fun g t hg => (h.glob g t hg).mono hle⟩, hle⟩
 ·rcases List.mem_cons.1 hit with rfl | hit
  ·exact hi _ hle (fun _ h => h) (fun _ h => h)
  ·exact it.stable (h.each it hit) (fun b hb _ => hk b hb) hle
 ·have := hf b hb
  have := hfl b ⟨it, hit, hb'⟩
  omega
def BlkAt (g : Nat) (e : TypeId) (ts : List Ty) (M : Fb) (w : World) : Prop := ∃ cs, w.heap[g]? = some (.cells cs e (0, 0)) ∧ ArrAt ts M w cs
theorem lt_of_some {w : World} {g : Nat} {o : Obj} (h : w.heap[g]? = some o) : g < w.heap.size := (Array.getElem?_eq_some_iff.1 h).1
def Item.blk (g : Nat) (e : TypeId) (ts : List Ty) : Item :=
  ⟨fun b => b = g, BlkAt g e ts, fun ⟨cs, h, _⟩ hb => by subst hb; exact lt_of_some h,
   fun ⟨cs, h, ha⟩ hk hl => ⟨cs, (hk g (lt_of_some h) rfl).trans h, ha.mono hl⟩⟩
def ElsAt (sz : Nat) (ess : List (List Ty)) (M : Fb) (w : World) (cur : Array Value) : Prop :=
 ∀ (i : Nat) (es : List Ty), ess[i]? = some es → es.length = sz ∧ ∀ (j : Nat) (t : Ty), es[j]? = some t → ∃ u, cur[i * sz + j]? = some u ∧ u.oneCell' = true ∧ t.holds M w u
def RowAt (v : Value) (e : TypeId) (sz : Nat) (ess : List (List Ty)) (M : Fb) (w : World) : Prop :=
 (v = .slice none 0 0 ∧ ess = []) ∨
 ∃ g cap cur, v = .slice (some ⟨g, 0, none⟩) ess.length cap ∧ w.heap[g]? = some (.cells cur e (0, 0)) ∧ ess.length ≤ cap ∧ cap ≤ maxLen ∧ cur.size = cap * sz ∧ ElsAt sz ess M w cur
theorem ElsAt.mono {sz ess M w M' w' cur} (h : ElsAt sz ess M w cur) (hl : Le M w M' w') : ElsAt sz ess M' w' cur := fun i es hi =>
 ⟨(h i es hi).1, fun j t ht => let ⟨u, hu, h1, hv⟩ := (h i es hi).2 j t ht; ⟨u, hu, h1, t.mono hv hl⟩⟩
def Item.row (v : Value) (e : TypeId) (sz : Nat) (ess : List (List Ty)) : Item :=
  ⟨fun b => v.ownBlock = some b, RowAt v e sz ess,
   fun h hb => by
    rcases h with ⟨rfl, _⟩ | ⟨g, cap, cur, rfl, hg, _⟩
    · simp [Value.ownBlock] at hb
    · simp only [Value.ownBlock, Option.some.injEq] at hb; subst hb; exact lt_of_some hg,
   fun h hk hl => by
    rcases h with h | ⟨g, cap, cur, rfl, hg, h1, h2, h3, h4⟩
    · exact .inl h
    · exact .inr ⟨g, cap, cur, rfl, (hk g (lt_of_some hg) rfl).trans hg, h1, h2, h3, h4.mono hl⟩⟩
abbrev rowL {α : Type} (v : Value) (e : TypeId) (sz : Nat) (f : α → List Ty) (l : List α) : Item := Item.row v e sz (l.map f)
abbrev Cx := List (Nat × Ty)
def Cx.look : Cx → Nat → Option Ty
 | [], _ => none
 | (k, t) :: r, i => if k = i then some t else Cx.look r i
structure Kx where
 P : Program
 gl : Gl
 n : Nat
 L0 : List Item
 w0 : World
def EnvOk (Γ : Cx) (L : List Item) (tmps : Array Value) (w : World) : Prop := ∀ t T, Γ.look t = some T → T.holds (foot L) w (tmps.getD t undef)
structure Sat (κ : Kx) (Γ : Cx) (L : List Item) (a : Act) (w : World) : Prop where
 defers : a.defers = []
 size : a.tmps.size = κ.n
 holds : Holds κ.gl L w
 le : Le (foot κ.L0) κ.w0 (foot L) w
 env : EnvOk Γ L a.tmps w
theorem EnvOk.le {Γ L L' tmps w w'} (h : EnvOk Γ L tmps w) (hl : Le (foot L) w (foot L') w') : EnvOk Γ L' tmps w' := fun t T ht => T.mono (h t T ht) hl
abbrev Post := Exit → Act → World → Prop
def OkC (κ : Kx) (c : Code) (Q : Post) (Γ : Cx) (L : List Item) : Prop := ∀ a w, Sat κ Γ L a w → c.wp κ.P Q a w
def OkX (κ : Kx) (Q : Post) (x : Exit) (Γ : Cx) (L : List Item) : Prop := ∀ a w, Sat κ Γ L a w → Q x a w
def OkL (κ : Kx) (ops : Array Oper) (Q : Post) (l : List Oper) (Γ : Cx) (L : List Item) : Prop := ∀ a w, Sat κ Γ L a w → wpList κ.P ops Q l a w
section
variable {κ : Kx} {Q : Post} {Γ Γ' : Cx} {L L' : List Item}
def Cov (Γ : Cx) : Cx → Prop
 | [] => True
 | (k, t) :: r => Γ.look k = some t ∧ Cov Γ r
theorem Cov.look {Γ : Cx} : ∀ {Γ' : Cx}, Cov Γ Γ' → ∀ {t T}, Γ'.look t = some T → Γ.look t = some T
 | [], _, _, _, h => by cases h
 | (k, u) :: r, h, t, T, hl => by
  simp only [Cx.look] at hl
  split at hl
  ·rename_i hk; cases hl; subst hk; exact h.1
  ·exact Cov.look h.2 hl
theorem Sat.cov {a w} (h : Sat κ Γ L a w) (hc : Cov Γ Γ') : Sat κ Γ' L a w := ⟨h.defers, h.size, h.holds, h.le, fun t T ht => h.env t T (hc.look ht)⟩
theorem Sat.perm {a w} (h : Sat κ Γ L a w) (hp : L.Perm L') : Sat κ Γ L' a w :=
 ⟨h.defers, h.size, h.holds.perm hp, h.le.trans (le_perm hp w), h.env.le (le_perm hp w)⟩
theorem Sat.tail {a w i} (h : Sat κ Γ (i :: L) a w) : Sat κ Γ L a w := by
 have hl : Le (foot (i :: L)) w (foot L) w := Le.of_iff w fun b hb => (foot_cons i L b).2 (.inr hb)
 exact ⟨h.defers, h.size, h.holds.tail, h.le.trans hl, h.env.le hl⟩
theorem okC_cov {c} (Γ' : Cx) (hc : Cov Γ Γ') (h : OkC κ c Q Γ' L) : OkC κ c Q Γ L := fun a w s => h a w (s.cov hc)
def Sub (T T' : Ty) : Prop := ∀ M w v, T.holds M w v → T'.holds M w v
theorem Sat.sub {a w t T} (h : Sat κ Γ L a w) (T' : Ty) (ht : Γ.look t = some T) (hs : Sub T T') : Sat κ ((t, T') :: Γ) L a w :=
 ⟨h.defers, h.size, h.holds, h.le, fun i U hi => by
  simp only [Cx.look] at hi
  split at hi
  ·rename_i hk; cases hi; subst hk; exact hs _ _ _ (h.env _ _ ht)
  ·exact h.env _ _ hi⟩
theorem okX_sub {x} (t : Nat) {T} (T' : Ty) (ht : Γ.look t = some T) (hs : Sub T T') (h : OkX κ Q x ((t, T') :: Γ) L) : OkX κ Q x Γ L := fun a w s => h a w (s.sub T' ht hs)
theorem sub_nil (sz : Nat) : Sub (Ty.val (.slice none 0 0)) (Ty.slice sz []) := fun _ _ _ e => by
 cases e
 exact ⟨none, 0, rfl, Nat.le_refl _, fun i es hi => by cases i <;> cases hi⟩
theorem okC_seq {x y : Code} (h : OkC κ x (Exit.then (y.wp κ.P Q) Q) Γ L) : OkC κ (.seq x y) Q Γ L := fun a w s => wp_seq (h a w s)
theorem okX_next {y : Code} (h : OkC κ y Q Γ L) : OkX κ (Exit.then (y.wp κ.P Q) Q) .normal Γ L := fun a w s => h a w s
theorem okX_then_exit {next : Act → World → Prop} {id : Nat} (h : OkX κ Q (.exit id) Γ L) : OkX κ (Exit.then next Q) (.exit id) Γ L := fun a w s => h a w s
theorem okX_then_ret {next : Act → World → Prop} (h : OkX κ Q .ret Γ L) : OkX κ (Exit.then next Q) .ret Γ L := fun a w s => h a w s
theorem okC_skip (h : OkX κ Q .normal Γ L) : OkC κ .skip Q Γ L := fun a w s => wp_skip (h a w s)
theorem okC_ret (h : OkX κ Q .ret Γ L) : OkC κ .ret Q Γ L := fun a w s => wp_ret (h a w s)
theorem okC_exit {id : Nat} (h : OkX κ Q (.exit id) Γ L) : OkC κ (.exit id) Q Γ L := fun a w s => wp_exit (h a w s)
theorem okC_block {id : Nat} {c : Code} (h : OkC κ c (Exit.inBlock id Q) Γ L) : OkC κ (.block id c) Q Γ L := fun a w s => wp_block (h a w s)
theorem okX_block_normal {id : Nat} (h : OkX κ Q .normal Γ L) : OkX κ (Exit.inBlock id Q) .normal Γ L := fun a w s => h a w s
theorem okX_block_ret {id : Nat} (h : OkX κ Q .ret Γ L) : OkX κ (Exit.inBlock id Q) .ret Γ L := fun a w s => h a w s
theorem okX_block_hit {id : Nat} (h : OkX κ Q .normal Γ L) : OkX κ (Exit.inBlock id Q) (.exit id) Γ L := fun a w s => by
 show (if id = id then Q .normal a w else Q (.exit id) a w)
 rw [if_pos rfl]; exact h a w s
def opTy (Γ : Cx) : Operand → Option Ty
 | .tmp t => Γ.look t
 | .const v => some (Ty.val v)
 | .global g => some (Ty.val (.pointer (some ⟨g, 0, none⟩)))
 | .func f => some (Ty.val (.func (.func f) #[] #[]))
theorem opTy_holds {a : Act} {w : World} {T : Ty} (h : EnvOk Γ L a.tmps w) {x : Operand} (hx : opTy Γ x = some T) : T.holds (foot L) w (a.eval x) := by
 cases x with
 | tmp t => exact h t T hx
 | const v => cases hx; exact rfl
 | global g => cases hx; exact rfl
 | func f => cases hx; exact rfl
theorem okC_cond {c : Operand} {x y : Code} {b : Bool} (hb : opTy Γ c = some (tB b)) (ht : b = true → OkC κ x Q Γ L) (hf : b = false → OkC κ y Q Γ L) : OkC κ (.cond c x y) Q Γ L := fun a w s =>
 wp_cond_split (t := b) (opTy_holds s.env hb) (fun h => ht h a w s) (fun h => hf h a w s)
theorem okC_true {c : Operand} {x y : Code} (hb : opTy Γ c = some (tB true)) (h : OkC κ x Q Γ L) : OkC κ (.cond c x y) Q Γ L := okC_cond hb (fun _ => h) (fun h => by cases h)
def Again {X : Type} (κ : Kx) (I : Nat → X → Prop) (G : X → Cx) (Lf : X → List Item) (k : Nat) : Act → World → Prop :=
 fun a w => ∃ k', k' < k ∧ ∃ x, I k' x ∧ Sat κ (G x) (Lf x) a w
theorem okC_loop {X : Type} {c : Code} (I : Nat → X → Prop) (G : X → Cx) (Lf : X → List Item) (k0 : Nat) (x0 : X) (h0 : I k0 x0) (hc : Cov Γ (G x0)) (hL : L = Lf x0)
  (round : ∀ k x, I k x → OkC κ c (Exit.then (Again κ I G Lf k) Q) (G x) (Lf x)) : OkC κ (.loop c) Q Γ L := fun a w s => by
 refine wp_loop_ghost (fun k a w => ∃ x, I k x ∧ Sat κ (G x) (Lf x) a w) k0 ⟨x0, h0, hL ▸ s.cov hc⟩ ?_
 intro k a w ⟨x, hx, hs⟩
 exact round k x hx a w hs
theorem okX_again {X : Type} {I : Nat → X → Prop} {G : X → Cx} {Lf : X → List Item} {k : Nat} (k' : Nat) (hk : k' < k) (x : X) (hx : I k' x) (hc : Cov Γ (G x)) (hL : L = Lf x) :
  OkX κ (Exit.then (Again κ I G Lf k) Q) .normal Γ L := fun a w s => ⟨k', hk, x, hx, hL ▸ s.cov hc⟩
def Meet {X : Type} (κ : Kx) (I : X → Prop) (G : X → Cx) (Lf : X → List Item) : Act → World → Prop := fun a w => ∃ x, I x ∧ Sat κ (G x) (Lf x) a w
theorem okC_meet {X : Type} {x y : Code} (I : X → Prop) (G : X → Cx) (Lf : X → List Item) (h : OkC κ x (Exit.then (Meet κ I G Lf) Q) Γ L) (hy : ∀ x, I x → OkC κ y Q (G x) (Lf x)) :
  OkC κ (.seq x y) Q Γ L := fun a w s => by
 refine wp_seq (wp_mono (h a w s) ?_)
 intro e a' w' hq
 cases e with
 | normal => obtain ⟨x, hx, hs⟩ := hq; exact hy x hx a' w' hs
 | _ => exact hq
theorem okX_meet {X : Type} {I : X → Prop} {G : X → Cx} {Lf : X → List Item} (x : X) (hx : I x) (hc : Cov Γ (G x)) (hL : L = Lf x) : OkX κ (Exit.then (Meet κ I G Lf) Q) .normal Γ L := fun a w s => ⟨x, hx, hL ▸ s.cov hc⟩
theorem okX_meet_ret {X : Type} {I : X → Prop} {G : X → Cx} {Lf : X → List Item} (h : OkX κ Q .ret Γ L) : OkX κ (Exit.then (Meet κ I G Lf) Q) .ret Γ L := fun a w s => h a w s
theorem okX_again_exit {X : Type} {I : Nat → X → Prop} {G : X → Cx} {Lf : X → List Item} {k id : Nat} (h : OkX κ Q (.exit id) Γ L) : OkX κ (Exit.then (Again κ I G Lf k) Q) (.exit id) Γ L := fun a w s => h a w s
theorem okX_again_ret {X : Type} {I : Nat → X → Prop} {G : X → Cx} {Lf : X → List Item} {k : Nat} (h : OkX κ Q .ret Γ L) : OkX κ (Exit.then (Again κ I G Lf k) Q) .ret Γ L := fun a w s => h a w s
end
end Go.Proofs.YtocfnpnnbmicmaaDoor.Tc
end
section
set_option linter.unusedVariables false
set_option linter.unusedSimpArgs false
namespace Go.Proofs.YtocfnpnnbmicmaaDoor.Tc
open Go
def Does (κ : Kx) (o : Oper) (Γ : Cx) (L : List Item) (T : Ty) : Prop :=
 ∀ (L' : List Item) (a : Act) (w : World), (∀ it, it ∈ L → it ∈ L') → Holds κ.gl L' w → EnvOk Γ L' a.tmps w → ∀ (K : Act → World → Prop) (Q : Post),
  (∀ v w', Holds κ.gl L' w' → Le (foot L') w (foot L') w' → T.holds (foot L') w' v → K (a.put o.dst v) w') → o.wp κ.P a w K Q
section
variable {κ : Kx} {Q : Post} {Γ : Cx} {L : List Item} {ops : Array Oper} {rest : List Oper}
theorem getD_set (xs : Array Value) (d t : Nat) (v : Value) (hd : d < xs.size) : (xs.setIfInBounds d v).getD t undef = if d = t then v else xs.getD t undef := by
 by_cases h : d = t
 ·subst h; simp [Array.getD, hd]
 ·simp only [h, if_false, Array.getD_eq_getD_getElem?, Array.getElem?_setIfInBounds_ne h]
theorem Sat.put {a : Act} {w w' : World} {L' : List Item} (s : Sat κ Γ L a w) (d : Nat) (T : Ty) (v : Value) (hd : d < κ.n) (hh : Holds κ.gl L' w') (hl : Le (foot L) w (foot L') w') (hv : T.holds (foot L') w' v) :
  Sat κ ((d, T) :: Γ) L' (a.put (some d) v) w' := by
 refine ⟨s.defers, by simp [Act.put, s.size], hh, s.le.trans hl, fun t U ht => ?_⟩
 simp only [Act.put]
 rw [getD_set _ _ _ _ (by rw [s.size]; exact hd)]
 simp only [Cx.look] at ht
 split at ht
 ·rename_i hk; cases ht; rw [if_pos hk]; exact hv
 ·rename_i hk; rw [if_neg hk]; exact U.mono (s.env t U ht) hl
theorem okL_step {dst : Option Nat} {op : Op} {ty : TypeId} {pos : String} {after : Array Edge} (d : Nat) (T : Ty) (hd : dst = some d) (hn : Nat.blt d κ.n = true)
  (hD : Does κ ⟨dst, op, ty, pos, after, none⟩ Γ L T) (h : OkL κ ops Q rest ((d, T) :: Γ) L) : OkL κ ops Q (⟨dst, op, ty, pos, after, none⟩ :: rest) Γ L := fun a w s => by
 subst hd
 refine wpList_plain rfl fun K hK => ?_
 exact hD L a w (fun _ h => h) s.holds s.env K Q fun v w' hh hl hv => hK _ _ (h _ _ (s.put d T v (Nat.lt_of_succ_le (Nat.le_of_ble_eq_true hn)) hh hl hv))
theorem wanted_of {a : Act} {w : World} {o : Oper} {j : Nat} {want b : Bool} (s : Sat κ Γ L a w) (hg : o.guard = some (j, want)) (dj : Nat) (hj : (ops[j]?).bind (·.dst) = some dj) (hb : Γ.look dj = some (tB b)) :
  Region.wanted o (yielded ops a.tmps) = (b == want) := by
 have he : a.tmps.getD dj undef = .bool b := s.env dj _ hb
 have : a.tmps[dj]? = some (.bool b) := by
  rw [Array.getD_eq_getD_getElem?] at he
  cases hx : a.tmps[dj]? with
  | none => rw [hx] at he; simp [undef] at he
  | some u => rw [hx] at he; simp at he; rw [he]
 simp [Region.wanted, hg, yielded, hj, this]
theorem okL_guard {dst : Option Nat} {op : Op} {ty : TypeId} {pos : String} {after : Array Edge} {j : Nat} {want : Bool} (d : Nat) (T : Ty) (dj : Nat) (b : Bool) (hj : (ops[j]?).bind (·.dst) = some dj) (hb : Γ.look dj = some (tB b)) (hw : b = want)
  (hd : dst = some d) (hn : Nat.blt d κ.n = true)
  (hD : Does κ ⟨dst, op, ty, pos, after, some (j, want)⟩ Γ L T) (h : OkL κ ops Q rest ((d, T) :: Γ) L) : OkL κ ops Q (⟨dst, op, ty, pos, after, some (j, want)⟩ :: rest) Γ L := fun a w s => by
 subst hd hw
 refine wpList_step fun K hK => ?_
 rw [if_pos (by rw [wanted_of s rfl dj hj hb]; simp)]
 exact hD L a w (fun _ h => h) s.holds s.env K Q fun v w' hh hl hv => hK _ _ (h _ _ (s.put d T v (Nat.lt_of_succ_le (Nat.le_of_ble_eq_true hn)) hh hl hv))
theorem okL_skip {dst : Option Nat} {op : Op} {ty : TypeId} {pos : String} {after : Array Edge} {j : Nat} {want : Bool} (d : Nat) (dj : Nat) (b : Bool) (hj : (ops[j]?).bind (·.dst) = some dj) (hb : Γ.look dj = some (tB b)) (hw : b = !want)
  (hd : dst = some d) (hn : Nat.blt d κ.n = true)
  (h : OkL κ ops Q rest ((d, Ty.val undef) :: Γ) L) : OkL κ ops Q (⟨dst, op, ty, pos, after, some (j, want)⟩ :: rest) Γ L := fun a w s => by
 subst hd hw
 refine wpList_step fun K hK => ?_
 rw [if_neg (by rw [wanted_of s rfl dj hj hb]; cases want <;> simp)]
 exact hK _ _ (h _ _ (s.put d _ undef (Nat.lt_of_succ_le (Nat.le_of_ble_eq_true hn)) s.holds (Le.refl _ _) rfl))
theorem okL_nil (h : OkX κ Q .normal Γ L) : OkL κ ops Q [] Γ L := fun a w s => wpList_nil (h a w s)
theorem okC_region {id : Nat} {l : List Oper} (h : OkL κ l.toArray Q l Γ L) : OkC κ (.region id l.toArray false) Q Γ L := fun a w s => wp_region_lit (h a w s)
theorem does_of_run {o : Oper} {T : Ty} (h : ∀ (L' : List Item) (a : Act) (w : World), (∀ it, it ∈ L → it ∈ L') → Holds κ.gl L' w → EnvOk Γ L' a.tmps w → ∃ v, (execOp a.eval o).run κ.P w = .ok (.value v) w ∧ T.holds (foot L') w v) : Does κ o Γ L T :=
 fun L' a w hs hh he K Q hk => by
  obtain ⟨v, hr, hv⟩ := h L' a w hs hh he
  unfold Oper.wp
  rw [hr]
  exact hk v w hh (Le.refl _ _) hv
variable {dst : Option Nat} {ty : TypeId} {pos : String} {after : Array Edge} {gd : Option (Nat × Bool)}
theorem does_move {x : Operand} {T : Ty} (hx : opTy Γ x = some T := by rfl) : Does κ ⟨dst, .move x, ty, pos, after, gd⟩ Γ L T :=
 does_of_run fun L' a w _ _ he => ⟨a.eval x, by simp [execOp], opTy_holds he hx⟩
theorem does_assign {x : Operand} {T : Ty} (hx : opTy Γ x = some T := by rfl) : Does κ ⟨dst, .assign x, ty, pos, after, gd⟩ Γ L T :=
 does_of_run fun L' a w _ _ he => ⟨a.eval x, by simp [execOp], opTy_holds he hx⟩
theorem does_pick_t {c x y : Operand} {T : Ty} (b : Bool) (hc : opTy Γ c = some (tB b)) (hb : b = true) (hx : opTy Γ x = some T) : Does κ ⟨dst, .pick c x y, ty, pos, after, gd⟩ Γ L T :=
 does_of_run fun L' a w _ _ he => ⟨a.eval x, by
  have : a.eval c = .bool b := opTy_holds he hc
  subst hb
  simp [execOp, this, asBool], opTy_holds he hx⟩
theorem does_pick_f {c x y : Operand} {T : Ty} (b : Bool) (hc : opTy Γ c = some (tB b)) (hb : b = false) (hx : opTy Γ y = some T) : Does κ ⟨dst, .pick c x y, ty, pos, after, gd⟩ Γ L T :=
 does_of_run fun L' a w _ _ he => ⟨a.eval y, by
  have : a.eval c = .bool b := opTy_holds he hc
  subst hb
  simp [execOp, this, asBool], opTy_holds he hx⟩
abbrev tK (k : IntKind) (n : Int) : Ty := Ty.val (.int k n)
def bAnd (k : IntKind) (x y : Int) : Int := k.wrap (BitVec.ofInt k.bits x &&& BitVec.ofInt k.bits y).toNat
def bOr (k : IntKind) (x y : Int) : Int := k.wrap (BitVec.ofInt k.bits x ||| BitVec.ofInt k.bits y).toNat
def bXor (k : IntKind) (x y : Int) : Int := k.wrap (BitVec.ofInt k.bits x ^^^ BitVec.ofInt k.bits y).toNat
def bAndNot (k : IntKind) (x y : Int) : Int := k.wrap (BitVec.ofInt k.bits x &&& ~~~ BitVec.ofInt k.bits y).toNat
def bShl (k : IntKind) (x y : Int) : Int := k.wrap (x * 2 ^ min y.toNat k.bits)
def bShr (k : IntKind) (x y : Int) : Int := x.fdiv (2 ^ min y.toNat k.bits)
section ints
variable {t1 t2 : TypeId} {x y : Operand} {k : IntKind} {m n : Int}
theorem bin_run (op : BinOp) (v : Value) (hx : opTy Γ x = some (tK k m)) (hy : opTy Γ y = some (tK k n)) (h : ∀ w, (binOp op t1 (.int k m) (.int k n)).run κ.P w = .ok v w) : Does κ ⟨dst, .binOp op t1 x y t2, ty, pos, after, gd⟩ Γ L (Ty.val v) :=
 does_of_run fun L' a w _ _ he => ⟨v, by
  have h1 : a.eval x = .int k m := opTy_holds he hx
  have h2 : a.eval y = .int k n := opTy_holds he hy
  have h3 : (eqGuard op t1 x y (a.eval x) (a.eval y)).run κ.P w = .ok () w := by
   rw [h1, h2]; unfold eqGuard; cases op <;> simp
  simp only [execOp, Sem.run_bind, h3, Result.andThen_ok]
  rw [h1, h2, h w]
  simp, rfl⟩
theorem does_add (hx : opTy Γ x = some (tK k m) := by rfl) (hy : opTy Γ y = some (tK k n) := by rfl) : Does κ ⟨dst, .binOp .add t1 x y t2, ty, pos, after, gd⟩ Γ L (tK k (k.wrap (m + n))) := bin_run _ _ hx hy fun w => by simp [binOp, Op.intArith]
theorem does_sub (hx : opTy Γ x = some (tK k m) := by rfl) (hy : opTy Γ y = some (tK k n) := by rfl) : Does κ ⟨dst, .binOp .sub t1 x y t2, ty, pos, after, gd⟩ Γ L (tK k (k.wrap (m - n))) := bin_run _ _ hx hy fun w => by simp [binOp, Op.intArith]
theorem does_mul (hx : opTy Γ x = some (tK k m) := by rfl) (hy : opTy Γ y = some (tK k n) := by rfl) : Does κ ⟨dst, .binOp .mul t1 x y t2, ty, pos, after, gd⟩ Γ L (tK k (k.wrap (m * n))) := bin_run _ _ hx hy fun w => by simp [binOp, Op.intArith]
theorem does_quo (hn : n ≠ 0) (hx : opTy Γ x = some (tK k m)) (hy : opTy Γ y = some (tK k n)) : Does κ ⟨dst, .binOp .quo t1 x y t2, ty, pos, after, gd⟩ Γ L (tK k (k.wrap (m.tdiv n))) := bin_run _ _ hx hy fun w => by simp [binOp, Op.intDiv, hn]
theorem does_rem (hn : n ≠ 0) (hx : opTy Γ x = some (tK k m)) (hy : opTy Γ y = some (tK k n)) : Does κ ⟨dst, .binOp .rem t1 x y t2, ty, pos, after, gd⟩ Γ L (tK k (m.tmod n)) := bin_run _ _ hx hy fun w => by simp [binOp, Op.intDiv, hn]
theorem does_and (hx : opTy Γ x = some (tK k m)) (hy : opTy Γ y = some (tK k n)) : Does κ ⟨dst, .binOp .and t1 x y t2, ty, pos, after, gd⟩ Γ L (tK k (bAnd k m n)) := bin_run _ _ hx hy fun w => by simp [binOp, Op.intBits, bAnd]
theorem does_or (hx : opTy Γ x = some (tK k m)) (hy : opTy Γ y = some (tK k n)) : Does κ ⟨dst, .binOp .or t1 x y t2, ty, pos, after, gd⟩ Γ L (tK k (bOr k m n)) := bin_run _ _ hx hy fun w => by simp [binOp, Op.intBits, bOr]
theorem does_xor (hx : opTy Γ x = some (tK k m)) (hy : opTy Γ y = some (tK k n)) : Does κ ⟨dst, .binOp .xor t1 x y t2, ty, pos, after, gd⟩ Γ L (tK k (bXor k m n)) := bin_run _ _ hx hy fun w => by simp [binOp, Op.intBits, bXor]
theorem does_andNot (hx : opTy Γ x = some (tK k m)) (hy : opTy Γ y = some (tK k n)) : Does κ ⟨dst, .binOp .andNot t1 x y t2, ty, pos, after, gd⟩ Γ L (tK k (bAndNot k m n)) := bin_run _ _ hx hy fun w => by simp [binOp, Op.intBits, bAndNot]
theorem does_eql (hx : opTy Γ x = some (tK k m) := by rfl) (hy : opTy Γ y = some (tK k n) := by rfl) : Does κ ⟨dst, .binOp .eql t1 x y t2, ty, pos, after, gd⟩ Γ L (tB (m == n)) := bin_run _ _ hx hy fun w => by simp [binOp, Op.intCmp]
theorem does_neq (hx : opTy Γ x = some (tK k m) := by rfl) (hy : opTy Γ y = some (tK k n) := by rfl) : Does κ ⟨dst, .binOp .neq t1 x y t2, ty, pos, after, gd⟩ Γ L (tB (m != n)) := bin_run _ _ hx hy fun w => by simp [binOp, Op.intCmp]
theorem does_lss (hx : opTy Γ x = some (tK k m) := by rfl) (hy : opTy Γ y = some (tK k n) := by rfl) : Does κ ⟨dst, .binOp .lss t1 x y t2, ty, pos, after, gd⟩ Γ L (tB (decide (m < n))) := bin_run _ _ hx hy fun w => by simp [binOp, Op.intCmp]
theorem does_leq (hx : opTy Γ x = some (tK k m) := by rfl) (hy : opTy Γ y = some (tK k n) := by rfl) : Does κ ⟨dst, .binOp .leq t1 x y t2, ty, pos, after, gd⟩ Γ L (tB (decide (m ≤ n))) := bin_run _ _ hx hy fun w => by simp [binOp, Op.intCmp]
theorem does_gtr (hx : opTy Γ x = some (tK k m) := by rfl) (hy : opTy Γ y = some (tK k n) := by rfl) : Does κ ⟨dst, .binOp .gtr t1 x y t2, ty, pos, after, gd⟩ Γ L (tB (decide (m > n))) := bin_run _ _ hx hy fun w => by simp [binOp, Op.intCmp]
theorem does_geq (hx : opTy Γ x = some (tK k m) := by rfl) (hy : opTy Γ y = some (tK k n) := by rfl) : Does κ ⟨dst, .binOp .geq t1 x y t2, ty, pos, after, gd⟩ Γ L (tB (decide (m ≥ n))) := bin_run _ _ hx hy fun w => by simp [binOp, Op.intCmp]
theorem does_shl {k2 : IntKind} (hn : 0 ≤ n) (hx : opTy Γ x = some (tK k m)) (hy : opTy Γ y = some (tK k2 n)) : Does κ ⟨dst, .binOp .shl t1 x y t2, ty, pos, after, gd⟩ Γ L (tK k (bShl k m n)) :=
 does_of_run fun L' a w _ _ he => ⟨_, by
  have h1 : a.eval x = .int k m := opTy_holds he hx
  have h2 : a.eval y = .int k2 n := opTy_holds he hy
  have h4 : ¬ n < 0 := by omega
  simp [execOp, eqGuard, h1, h2, binOp, Op.shift, h4]
  rfl, rfl⟩
theorem does_shr {k2 : IntKind} (hn : 0 ≤ n) (hx : opTy Γ x = some (tK k m)) (hy : opTy Γ y = some (tK k2 n)) : Does κ ⟨dst, .binOp .shr t1 x y t2, ty, pos, after, gd⟩ Γ L (tK k (bShr k m n)) :=
 does_of_run fun L' a w _ _ he => ⟨_, by
  have h1 : a.eval x = .int k m := opTy_holds he hx
  have h2 : a.eval y = .int k2 n := opTy_holds he hy
  have h4 : ¬ n < 0 := by omega
  simp [execOp, eqGuard, h1, h2, binOp, Op.shift, h4]
  rfl, rfl⟩
theorem does_not {b : Bool} (hx : opTy Γ x = some (tB b) := by rfl) : Does κ ⟨dst, .unOp .not t1 x, ty, pos, after, gd⟩ Γ L (tB (!b)) :=
 does_of_run fun L' a w _ _ he => ⟨_, by
  have h1 : a.eval x = .bool b := opTy_holds he hx
  simp [execOp, h1, Op.unary], rfl⟩
theorem does_convert {k2 : IntKind} {d1 : TypeDesc} (h1 : κ.P.underlying t1 = some d1) (h2 : κ.P.underlying t2 = some (.int k2)) (hx : opTy Γ x = some (tK k m)) : Does κ ⟨dst, .convert t1 t2 x, ty, pos, after, gd⟩ Γ L (tK k2 (k2.wrap m)) :=
 does_of_run fun L' a w _ _ he => ⟨_, by
  have h0 : a.eval x = .int k m := opTy_holds he hx
  simp [execOp, h0, convert, run_underlying h1, run_underlying h2, Conv.intToInt], rfl⟩
theorem does_min {tys : Array TypeId} {k2 : IntKind} (hx : opTy Γ x = some (tK k m)) (hy : opTy Γ y = some (tK k2 n)) : Does κ ⟨dst, .call ⟨.builtin .min, #[x, y], tys⟩, ty, pos, after, gd⟩ Γ L (tK k (if n < m then n else m)) :=
 does_of_run fun L' a w _ _ he => ⟨_, by
  have h1 : a.eval x = .int k m := opTy_holds he hx
  have h2 : a.eval y = .int k2 n := opTy_holds he hy
  simp [execOp, resolve, invoke, builtin, Builtin.min_, h1, h2, Builtin.min2], rfl⟩
end ints
end
end Go.Proofs.YtocfnpnnbmicmaaDoor.Tc
end
section
set_option linter.unusedVariables false
set_option linter.unusedSimpArgs false
namespace Go.Proofs.YtocfnpnnbmicmaaDoor.Tc
open Go
def idx {α : Type} (l : List α) (i : Int) : Option α := if 0 ≤ i then l[i.toNat]? else none
theorem idx_some {α : Type} {l : List α} {i : Int} {x : α} (h : idx l i = some x) : 0 ≤ i ∧ i < l.length ∧ l[i.toNat]? = some x := by
 unfold idx at h
 split at h
 ·rename_i h0
  have := (List.getElem?_eq_some_iff.1 h).1
  exact ⟨h0, by omega, h⟩
 ·cases h
theorem PtAt.cells {M : Fb} {w : World} : ∀ {ts : List Ty} {a : Addr}, PtAt M w a ts → ∃ cs : List Value, cs.length = ts.length ∧ (∀ j v, cs[j]? = some v → w.cell? (a.add j) = some v) ∧ ArrAt ts M w cs.toArray
 | [], a, _ => ⟨[], rfl, fun j v h => (by simp at h), ⟨rfl, fun j t h => (by simp at h)⟩⟩
 | t :: ts, a, h => by
  obtain ⟨cs, hl, hc, ha⟩ := PtAt.cells (ts := ts) (a := a.add 1) (by have := h.drop 1; simpa using this)
  obtain ⟨hm, v, hv, h1, ht⟩ := h 0 t rfl
  refine ⟨v :: cs, by simp [hl], fun j u hj => ?_, by simp [hl], fun j u hj => ?_⟩
  ·cases j with
   | zero => cases hj; exact hv
   | succ j =>
    have := hc j u hj
    rw [add_add] at this
    rw [Nat.add_comm]; exact this
  ·cases j with
   | zero => cases hj; exact ⟨v, rfl, h1, ht⟩
   | succ j => obtain ⟨z, hz, h2⟩ := ha.2 j u hj; exact ⟨z, by simpa using hz, h2⟩
section
variable {κ : Kx} {Q : Post} {Γ : Cx} {L : List Item} {ops : Array Oper} {rest : List Oper}
variable {dst : Option Nat} {ty : TypeId} {pos : String} {after : Array Edge} {gd : Option (Nat × Bool)}
theorem does_load1 {t : TypeId} {x : Operand} {T : Ty} {ts : List Ty} (hag : ∀ w, (isAgg t).run κ.P w = .ok false w) (hx : opTy Γ x = some (Ty.ptr (T :: ts))) : Does κ ⟨dst, .load t x, ty, pos, after, gd⟩ Γ L T :=
 does_of_run fun L' a w _ _ he => by
  obtain ⟨ad, h1, hp⟩ := opTy_holds he hx
  obtain ⟨_, v, hc, _, hv⟩ := hp 0 T rfl
  rw [add_zero] at hc
  exact ⟨v, by simp [execOp, h1, Instr.loadAt, Instr.sureAddr, loadVar, hag, hc], hv⟩
theorem does_loadA {t : TypeId} {x : Operand} {ts : List Ty} {sz : Nat} (us : List Ty) (hag : ∀ w, (isAgg t).run κ.P w = .ok true w) (hsz : ∀ w, (sizeOf t).run κ.P w = .ok sz w) (hx : opTy Γ x = some (Ty.ptr ts)) (hu : us = ts.take sz) (hl : us.length = sz) : Does κ ⟨dst, .load t x, ty, pos, after, gd⟩ Γ L (Ty.agg us) :=
 does_of_run fun L' a w _ _ he => by
  obtain ⟨ad, h1, hp⟩ := opTy_holds he hx
  obtain ⟨cs, hcl, hcc, hca⟩ := (hp.take sz).cells
  rw [← hu] at hcl hca
  have hr := run_loadCells_list (P := κ.P) w ad cs hcc
  rw [hcl, hl] at hr
  exact ⟨.agg cs.toArray, by simp [execOp, h1, Instr.loadAt, Instr.sureAddr, loadVar, hag, hsz, hr], cs.toArray, rfl, hca⟩
theorem does_fieldAddr {s : TypeId} {x : Operand} {f : Nat} {ts : List Ty} {fs : Array Field} {fl : Field} {k : Nat} (us : List Ty) (hu : κ.P.underlying s = some (.struct fs)) (hf : fs[f]? = some fl) (hk : ∀ w, (sizeOf fl.type).run κ.P w = .ok (k + 1) w)
  (hx : opTy Γ x = some (Ty.ptr ts)) (hus : us = ts.drop fl.offset) : Does κ ⟨dst, .fieldAddr s x f, ty, pos, after, gd⟩ Γ L (Ty.ptr us) :=
 does_of_run fun L' a w _ _ he => by
  obtain ⟨ad, h1, hp⟩ := opTy_holds he hx
  refine ⟨.pointer (some (ad.add fl.offset)), ?_, ad.add fl.offset, rfl, by rw [hus]; exact hp.drop _⟩
  simp [execOp, h1, Instr.fieldAt, run_underlying hu, hf, Instr.sureAddr, fieldPlace, hk]
theorem does_field1 {s : TypeId} {x : Operand} {f : Nat} {ts : List Ty} {fs : Array Field} {fl : Field} {T : Ty} (hu : κ.P.underlying s = some (.struct fs)) (hf : fs[f]? = some fl) (hag : ∀ w, (isAgg fl.type).run κ.P w = .ok false w)
  (hx : opTy Γ x = some (Ty.agg ts)) (hT : ts[fl.offset]? = some T) : Does κ ⟨dst, .field s x f, ty, pos, after, gd⟩ Γ L T :=
 does_of_run fun L' a w _ _ he => by
  obtain ⟨cs, h1, hp⟩ := opTy_holds he hx
  obtain ⟨u, hu1, _, hu2⟩ := hp.2 _ _ hT
  exact ⟨u, by simp [execOp, h1, Instr.field, run_underlying hu, hf, asAgg, part, hag, hu1], hu2⟩
theorem does_extract {x : Operand} {i : Nat} {ts : List Ty} {T : Ty} (hx : opTy Γ x = some (Ty.tup ts) := by rfl) (hT : ts[i]? = some T := by rfl) : Does κ ⟨dst, .extract x i, ty, pos, after, gd⟩ Γ L T :=
 does_of_run fun L' a w _ _ he => by
  obtain ⟨cs, h1, _, hp⟩ := opTy_holds he hx
  obtain ⟨u, hu1, hu2⟩ := hp _ _ hT
  exact ⟨u, by simp [execOp, h1, Instr.extract, hu1], hu2⟩
section slices
variable {α : Type} {sz : Nat} {f : α → List Ty} {l : List α} {t e : TypeId} {x : Operand}
theorem sl_at {M : Fb} {w : World} {v : Value} (h : (tL sz f l).holds M w v) : ∃ A c, v = .slice A l.length c ∧ l.length ≤ c ∧ ∀ i y, l[i]? = some y → (f y).length = sz ∧ ∃ a, A = some a ∧ PtAt M w (a.add (i * sz)) (f y) := by
 obtain ⟨A, c, hv, hc, hp⟩ := h
 simp only [List.length_map] at hv hc
 exact ⟨A, c, hv, hc, fun i y hy => hp i (f y) (by simp [hy])⟩
theorem does_index {i : Operand} {k : IntKind} {n : Int} (y : α) (hu : κ.P.underlying t = some (.slice e)) (hsz : ∀ w, (sizeOf e).run κ.P w = .ok sz w) (hidx : idx l n = some y)
  (hx : opTy Γ x = some (tL sz f l)) (hi : opTy Γ i = some (tK k n)) : Does κ ⟨dst, .indexAddr t x i, ty, pos, after, gd⟩ Γ L (Ty.ptr (f y)) :=
 does_of_run fun L' a w _ _ he => by
  obtain ⟨A, c, hv, hc, hp⟩ := sl_at (opTy_holds he hx)
  have hn : a.eval i = .int k n := opTy_holds he hi
  obtain ⟨h0, h1, h2⟩ := idx_some hidx
  obtain ⟨_, ad, rfl, hpt⟩ := hp _ _ h2
  refine ⟨.pointer (some (ad.add (n.toNat * sz))), ?_, _, rfl, hpt⟩
  simp [execOp, hv, hn, Instr.indexAt, asIntOf, run_underlying hu, h0, h1, hsz]
theorem does_len {tys : Array TypeId} (h0 : tys[0]? = some t) (hu : κ.P.underlying t = some (.slice e)) (hx : opTy Γ x = some (tL sz f l)) : Does κ ⟨dst, .call ⟨.builtin .len, #[x], tys⟩, ty, pos, after, gd⟩ Γ L (tI (l.length : Int)) :=
 does_of_run fun L' a w _ _ he => by
  obtain ⟨A, c, hv, _⟩ := sl_at (opTy_holds he hx)
  exact ⟨_, by simp [execOp, resolve, invoke, builtin, Builtin.len_, hv, h0, run_underlying hu, goInt], rfl⟩
theorem slice_drop {M : Fb} {w : World} {A : Option Addr} {c : Nat} (hp : ∀ i y, l[i]? = some y → (f y).length = sz ∧ ∃ a, A = some a ∧ PtAt M w (a.add (i * sz)) (f y)) (hc : l.length ≤ c) (lo : Nat) (hlo : lo ≤ l.length) :
  (tL sz f (l.drop lo)).holds M w (.slice (if c = lo then A else A.map (·.add (lo * sz))) (l.length - lo) (c - lo)) := by
 refine ⟨(if c = lo then A else A.map (·.add (lo * sz))), c - lo, by simp, by simp; omega, fun i es hi => ?_⟩
 simp only [List.getElem?_map, List.getElem?_drop, Option.map_eq_some_iff] at hi
 obtain ⟨y, hy, rfl⟩ := hi
 obtain ⟨h1, a, rfl, hq⟩ := hp _ _ hy
 have : lo + i < l.length := (List.getElem?_eq_some_iff.1 hy).1
 rw [if_neg (by omega)]
 refine ⟨h1, a.add (lo * sz), rfl, ?_⟩
 rw [add_add, ← Nat.add_mul]
 exact hq
theorem slice_take {M : Fb} {w : World} {A : Option Addr} {c : Nat} (hp : ∀ i y, l[i]? = some y → (f y).length = sz ∧ ∃ a, A = some a ∧ PtAt M w (a.add (i * sz)) (f y)) (hc : l.length ≤ c) (hi : Nat) (hhi : hi ≤ l.length) :
  (∀ i y, (l.take hi)[i]? = some y → (f y).length = sz ∧ ∃ a, A = some a ∧ PtAt M w (a.add (i * sz)) (f y)) := by
 intro i y hy
 rw [List.getElem?_take] at hy
 split at hy
 ·exact hp i y hy
 ·cases hy
def subLo {α : Type} (l : List α) (lo : Int) : Option (List α) := if 0 ≤ lo ∧ lo ≤ l.length then some (l.drop lo.toNat) else none
def subHi {α : Type} (l : List α) (hi : Int) : Option (List α) := if 0 ≤ hi ∧ hi ≤ l.length then some (l.take hi.toNat) else none
theorem does_subLo {lo : Operand} {k : IntKind} {n : Int} (r : List α) (hr : subLo l n = some r) (hu : κ.P.underlying t = some (.slice e)) (hsz : ∀ w, (sizeOf e).run κ.P w = .ok sz w)
  (hx : opTy Γ x = some (tL sz f l)) (hl : opTy Γ lo = some (tK k n)) : Does κ ⟨dst, .slice t x (some lo) none none, ty, pos, after, gd⟩ Γ L (tL sz f r) :=
 does_of_run fun L' a w _ _ he => by
  obtain ⟨A, c, hv, hc, hp⟩ := sl_at (opTy_holds he hx)
  have hn : a.eval lo = .int k n := opTy_holds he hl
  unfold subLo at hr
  split at hr
  ·rename_i hb
   cases hr
   refine ⟨_, ?_, slice_drop hp hc n.toNat (by omega)⟩
   simp [execOp, hv, hn, Instr.sliceAt, Instr.slice, run_underlying hu, Instr.sliceBounds, Instr.sliceBound, asIntOf, hb.1, hb.2, hsz]
  ·cases hr
theorem does_subHi {hi : Operand} {k : IntKind} {n : Int} (r : List α) (hr : subHi l n = some r) (hu : κ.P.underlying t = some (.slice e)) (hsz : ∀ w, (sizeOf e).run κ.P w = .ok sz w)
  (hx : opTy Γ x = some (tL sz f l)) (hl : opTy Γ hi = some (tK k n)) : Does κ ⟨dst, .slice t x none (some hi) none, ty, pos, after, gd⟩ Γ L (tL sz f r) :=
 does_of_run fun L' a w _ _ he => by
  obtain ⟨A, c, hv, hc, hp⟩ := sl_at (opTy_holds he hx)
  have hn : a.eval hi = .int k n := opTy_holds he hl
  unfold subHi at hr
  split at hr
  ·rename_i hb
   cases hr
   have h3 : n ≤ c := by omega
   have h4 := slice_drop (slice_take hp hc n.toNat (by omega)) (c := c) (by simp; omega) 0 (by omega)
   have h5 : (l.take n.toNat).length = n.toNat := by simp; omega
   rw [List.drop_zero, h5] at h4
   simp only [Nat.sub_zero, Nat.zero_mul] at h4
   refine ⟨.slice (if c = 0 then A else A.map (·.add 0)) n.toNat c, ?_, h4⟩
   simp [execOp, hv, hn, Instr.sliceAt, Instr.slice, run_underlying hu, Instr.sliceBounds, Instr.sliceBound, asIntOf, hb.1, h3, hsz]
  ·cases hr
end slices
end
end Go.Proofs.YtocfnpnnbmicmaaDoor.Tc
end
section
set_option linter.unusedVariables false
set_option linter.unusedSimpArgs false
namespace Go.Proofs.YtocfnpnnbmicmaaDoor.Tc
open Go Go.RowKit
theorem erase_at {L : List Item} {n : Nat} {it : Item} (h : L[n]? = some it) : L.Perm (it :: L.eraseIdx n) := by
 induction L generalizing n with
 | nil => simp at h
 | cons x L ih =>
  cases n with
  | zero => simp at h; subst h; exact List.Perm.refl _
  | succ n => exact ((ih (by simpa using h)).cons x).trans (List.Perm.swap _ _ _)
theorem set_perm {L : List Item} {n : Nat} {it : Item} (h : L[n]? = some it) (it' : Item) : (L.set n it').Perm (it' :: L.eraseIdx n) := by
 induction L generalizing n with
 | nil => simp at h
 | cons x L ih =>
  cases n with
  | zero => exact List.Perm.refl _
  | succ n => exact ((ih (by simpa using h)).cons x).trans (List.Perm.swap _ _ _)
theorem Holds.swapAt {gl : Gl} {L : List Item} {w w' : World} {n : Nat} {i i' : Item} (h : Holds gl L w) (hn : L[n]? = some i) (hs : w.heap.size ≤ w'.heap.size) (ho : w'.os = w.os) (ht : w'.tape = w.tape) (hu : w'.output = w.output)
  (hk : ∀ b, b < w.heap.size → ¬ i.foot b → w'.heap[b]? = w.heap[b]?) (hf : ∀ b, i'.foot b → i.foot b ∨ w.heap.size ≤ b)
  (hi : ∀ M, Le (foot L) w M w' → i'.hold M w') :
  Holds gl (L.set n i') w' ∧ Le (foot L) w (foot (L.set n i')) w' := by
 have hp := erase_at hn
 have hq := set_perm hn i'
 obtain ⟨h1, h2⟩ := (h.perm hp).swap (i' := i') hs ho ht hu hk hf (fun M hl _ _ => hi M ((le_perm hp w).trans hl))
 exact ⟨h1.perm hq.symm, (le_perm hp w).trans (h2.trans (le_perm hq.symm w'))⟩
def PartTy (T : Ty) (ps : List Ty) : Prop := ∀ M w v, T.holds M w v → ArrAt ps M w v.cells
theorem part_one {T : Ty} (h : T.One) : PartTy T [T] := fun M w v hv => by
 have h1 := h M w v hv
 have hc : v.cells = #[v] := by cases v <;> simp_all [Value.cells, Value.oneCell']
 rw [hc]
 refine ⟨rfl, fun j t ht => ?_⟩
 cases j with
 | zero => cases ht; exact ⟨v, rfl, h1, hv⟩
 | succ j => cases ht
theorem part_agg (ps : List Ty) : PartTy (Ty.agg ps) ps := fun M w v ⟨cs, e, h⟩ => by subst e; exact h
theorem arr_vals {M : Fb} {w : World} (z : List Value) (h : z.all Value.oneCell' = true) : ArrAt (z.map Ty.val) M w z.toArray :=
 ⟨by simp, fun j t ht => by
  simp only [List.getElem?_map, Option.map_eq_some_iff] at ht
  obtain ⟨v, hv, rfl⟩ := ht
  exact ⟨v, by simpa using hv, List.all_eq_true.1 h v (List.mem_of_getElem? hv), rfl⟩⟩
theorem sub_agg (z : List Value) (h : z.all Value.oneCell' = true) : Sub (Ty.val (.agg z.toArray)) (Ty.agg (z.map Ty.val)) := fun M w v e => ⟨z.toArray, e, arr_vals z h⟩
section
variable {κ : Kx} {Q : Post} {Γ : Cx} {L : List Item} {ops : Array Oper} {rest : List Oper}
variable {dst : Option Nat} {ty : TypeId} {pos : String} {after : Array Edge}
def DoesO (κ : Kx) (o : Oper) (Γ : Cx) (L : List Item) (C : Ty → List Item → Prop) : Prop :=
 ∀ (a : Act) (w : World), Sat κ Γ L a w → ∀ (K : Act → World → Prop) (Q : Post),
  (∀ v w' T L', Holds κ.gl L' w' → Le (foot L) w (foot L') w' → T.holds (foot L') w' v → C T L' → K (a.put o.dst v) w') → o.wp κ.P a w K Q
theorem doesO_run {o : Oper} {C : Ty → List Item → Prop} (h : ∀ a w, Sat κ Γ L a w → ∃ v w' T L', (execOp a.eval o).run κ.P w = .ok (.value v) w' ∧ Holds κ.gl L' w' ∧ Le (foot L) w (foot L') w' ∧ T.holds (foot L') w' v ∧ C T L') : DoesO κ o Γ L C := fun a w s K Q hk => by
 obtain ⟨v, w', T, L', hr, h1, h2, h3, h4⟩ := h a w s
 unfold Oper.wp
 rw [hr]
 exact hk v w' T L' h1 h2 h3 h4
theorem doesO_unit {o : Oper} {C : Ty → List Item → Prop} (h : ∀ a w, Sat κ Γ L a w → ∃ w' L', (execOp a.eval o).run κ.P w = .ok .skip w' ∧ Holds κ.gl L' w' ∧ Le (foot L) w (foot L') w' ∧ C (Ty.val undef) L') : DoesO κ o Γ L C := fun a w s K Q hk => by
 obtain ⟨w', L', hr, h1, h2, h4⟩ := h a w s
 unfold Oper.wp
 rw [hr]
 exact hk undef w' (Ty.val undef) L' h1 h2 rfl h4
theorem okL_stepO {op : Op} (d : Nat) (hd : dst = some d) (hn : Nat.blt d κ.n = true) (h : DoesO κ ⟨dst, op, ty, pos, after, none⟩ Γ L (fun T L' => OkL κ ops Q rest ((d, T) :: Γ) L')) :
  OkL κ ops Q (⟨dst, op, ty, pos, after, none⟩ :: rest) Γ L := fun a w s => by
 subst hd
 refine wpList_plain rfl fun K hK => ?_
 exact h a w s K Q fun v w' T L' h1 h2 h3 h4 => hK _ _ (h4 _ _ (s.put d T v (Nat.lt_of_succ_le (Nat.le_of_ble_eq_true hn)) h1 h2 h3))
theorem okL_stepU {op : Op} (hd : dst = none) (h : DoesO κ ⟨dst, op, ty, pos, after, none⟩ Γ L (fun _ L' => OkL κ ops Q rest Γ L')) :
  OkL κ ops Q (⟨dst, op, ty, pos, after, none⟩ :: rest) Γ L := fun a w s => by
 subst hd
 refine wpList_plain rfl fun K hK => ?_
 exact h a w s K Q fun v w' T L' h1 h2 h3 h4 => hK _ _ (h4 _ _ ⟨s.defers, s.size, h1, s.le.trans h2, s.env.le h2⟩)
abbrev pAt (g o : Nat) : Ty := Ty.val (.pointer (some ⟨g, o, none⟩))
theorem blk_new {gl : Gl} {w : World} {e : TypeId} {ts : List Ty} {cs : Array Value} (h : Holds gl L w) (ha : ArrAt ts (foot L) w cs) :
  Holds gl (Item.blk w.heap.size e ts :: L) (w.alloc (.cells cs e)) ∧ Le (foot L) w (foot (Item.blk w.heap.size e ts :: L)) (w.alloc (.cells cs e)) :=
 h.new (i' := Item.blk w.heap.size e ts) (by simp) rfl rfl rfl (fun b hb => Below.heap_alloc w _ b hb) (fun b hb => by have : b = w.heap.size := hb; omega)
  (fun M hl _ _ => ⟨cs, heap_alloc_new w _, ha.mono hl⟩)
variable {gd : Option (Nat × Bool)} {C : Ty → List Item → Prop}
theorem doesO_box {e : TypeId} {x : Operand} {T : Ty} (ts : List Ty) (hx : opTy Γ x = some T) (hp : PartTy T ts)
  (h : ∀ g, C (pAt g 0) (Item.blk g e ts :: L)) : DoesO κ ⟨dst, .box e x, ty, pos, after, gd⟩ Γ L C :=
 doesO_run fun a w s => by
  obtain ⟨h1, h2⟩ := blk_new (e := e) s.holds (hp _ _ _ (opTy_holds s.env hx))
  exact ⟨_, _, pAt w.heap.size 0, _, by simp [execOp, Instr.box, newVar, newRow]; done, h1, h2, rfl, h _⟩
theorem doesO_alloc {e : TypeId} {z : Value} (ts : List Ty) (hz : ∀ w, (zeroValue e).run κ.P w = .ok z w) (hp : PartTy (Ty.val z) ts)
  (h : ∀ g, C (pAt g 0) (Item.blk g e ts :: L)) : DoesO κ ⟨dst, .alloc e, ty, pos, after, gd⟩ Γ L C :=
 doesO_run fun a w s => by
  obtain ⟨h1, h2⟩ := blk_new (e := e) s.holds (hp (foot L) w z rfl)
  exact ⟨_, _, pAt w.heap.size 0, _, by simp [execOp, Instr.alloc, hz, newVar, newRow]; done, h1, h2, rfl, h _⟩
theorem blk_cell {w : World} {g o : Nat} {e : TypeId} {cs : Array Value} (hg : w.heap[g]? = some (.cells cs e (0, 0))) : w.cell? ⟨g, o, none⟩ = cs[o]? := cell_of_row w g o cs e (0, 0) hg
theorem does_loadB1 {t e : TypeId} {x : Operand} {g o : Nat} {ts : List Ty} {T : Ty} (hag : ∀ w, (isAgg t).run κ.P w = .ok false w) (hx : opTy Γ x = some (pAt g o)) (n : Nat) (hi : L[n]? = some (Item.blk g e ts)) (hT : ts[o]? = some T) :
  Does κ ⟨dst, .load t x, ty, pos, after, gd⟩ Γ L T :=
 does_of_run fun L' a w hs hh he => by
  have h1 : a.eval x = .pointer (some ⟨g, o, none⟩) := opTy_holds he hx
  obtain ⟨cs, hg, ha⟩ := hh.each _ (hs _ (List.mem_of_getElem? hi))
  obtain ⟨v, hv, _, hT⟩ := ha.2 _ _ hT
  exact ⟨v, by simp [execOp, h1, Instr.loadAt, Instr.sureAddr, loadVar, hag, blk_cell hg, hv], hT⟩
theorem cells_of {M : Fb} {w : World} {g o : Nat} {e : TypeId} {cs : Array Value} {us : List Ty} (hg : w.heap[g]? = some (.cells cs e (0, 0))) (hu : ∀ j t, us[j]? = some t → ∃ v, cs[o + j]? = some v ∧ v.oneCell' = true ∧ t.holds M w v) :
  ∃ vs : List Value, vs.length = us.length ∧ (∀ j v, vs[j]? = some v → w.cell? ((⟨g, o, none⟩ : Addr).add j) = some v) ∧ ArrAt us M w vs.toArray := by
 induction us generalizing o with
 | nil => exact ⟨[], rfl, fun j v h => (by simp at h), ⟨rfl, fun j t h => (by simp at h)⟩⟩
 | cons t us ih =>
  obtain ⟨vs, h1, h2, h3⟩ := ih (o := o + 1) (fun j u hj => by
   obtain ⟨v, hv⟩ := hu (j + 1) u (by simpa using hj)
   exact ⟨v, by rw [show o + 1 + j = o + (j + 1) by omega]; exact hv⟩)
  obtain ⟨v, hv, hv1, hv2⟩ := hu 0 t rfl
  refine ⟨v :: vs, by simp [h1], fun j u hj => ?_, by simp [h1], fun j u hj => ?_⟩
  ·cases j with
   | zero => cases hj; rw [add_lit, blk_cell hg]; exact hv
   | succ j =>
    have := h2 j u (by simpa using hj)
    rw [add_lit] at this ⊢
    rw [show o + (j + 1) = o + 1 + j by omega]; exact this
  ·cases j with
   | zero => cases hj; exact ⟨v, rfl, hv1, hv2⟩
   | succ j => obtain ⟨z, hz, h5⟩ := h3.2 j u (by simpa using hj); exact ⟨z, by simpa using hz, h5⟩
theorem does_loadBA {t e : TypeId} {x : Operand} {g o sz : Nat} {ts : List Ty} (us : List Ty) (hag : ∀ w, (isAgg t).run κ.P w = .ok true w) (hsz : ∀ w, (sizeOf t).run κ.P w = .ok sz w) (hx : opTy Γ x = some (pAt g o)) (n : Nat) (hi : L[n]? = some (Item.blk g e ts))
  (hu : us = (ts.drop o).take sz) (hl : us.length = sz) : Does κ ⟨dst, .load t x, ty, pos, after, gd⟩ Γ L (Ty.agg us) :=
 does_of_run fun L' a w hs hh he => by
  have h1 : a.eval x = .pointer (some ⟨g, o, none⟩) := opTy_holds he hx
  obtain ⟨cs, hg, ha⟩ := hh.each _ (hs _ (List.mem_of_getElem? hi))
  obtain ⟨vs, h2, h3, h4⟩ := cells_of (us := us) (M := foot L') (o := o) hg (fun j T hj => by
   subst hu
   rw [List.getElem?_take] at hj
   split at hj
   ·rw [List.getElem?_drop] at hj; exact ha.2 _ _ hj
   ·cases hj)
  have hr := run_loadCells_list (P := κ.P) w ⟨g, o, none⟩ vs h3
  rw [h2, hl] at hr
  exact ⟨.agg vs.toArray, by simp [execOp, h1, Instr.loadAt, Instr.sureAddr, loadVar, hag, hsz, hr], vs.toArray, rfl, h4⟩
theorem does_fieldAddrP {s : TypeId} {x : Operand} {f g o : Nat} {fs : Array Field} {fl : Field} {k : Nat} (o' : Nat) (hu : κ.P.underlying s = some (.struct fs)) (hf : fs[f]? = some fl) (hk : ∀ w, (sizeOf fl.type).run κ.P w = .ok (k + 1) w)
  (hx : opTy Γ x = some (pAt g o)) (ho : o' = o + fl.offset) : Does κ ⟨dst, .fieldAddr s x f, ty, pos, after, gd⟩ Γ L (pAt g o') :=
 does_of_run fun L' a w _ _ he => by
  have h1 : a.eval x = .pointer (some ⟨g, o, none⟩) := opTy_holds he hx
  subst ho
  exact ⟨_, by simp [execOp, h1, Instr.fieldAt, run_underlying hu, hf, Instr.sureAddr, fieldPlace, hk, add_lit], rfl⟩
theorem does_nilCheck {x : Operand} {g o : Nat} (hx : opTy Γ x = some (pAt g o) := by rfl) : Does κ ⟨dst, .nilCheck x, ty, pos, after, gd⟩ Γ L (pAt g o) :=
 does_of_run fun L' a w _ _ he => by
  have h1 : a.eval x = .pointer (some ⟨g, o, none⟩) := opTy_holds he hx
  exact ⟨_, by simp [execOp, h1], rfl⟩
def over (ts : List Ty) (o : Nat) (ps : List Ty) : List Ty := ts.take o ++ ps ++ ts.drop (o + ps.length)
theorem over_get (ts : List Ty) (o : Nat) (ps : List Ty) (h : o + ps.length ≤ ts.length) (j : Nat) : (over ts o ps)[j]? = if j < o then ts[j]? else if j < o + ps.length then ps[j - o]? else ts[j]? := by
 unfold over
 rw [List.append_assoc, List.getElem?_append]
 have hto : (ts.take o).length = o := by simp; omega
 rw [hto]
 split
 ·rename_i hj; rw [List.getElem?_take, if_pos hj]
 ·rename_i hj
  rw [List.getElem?_append]
  split
  ·rename_i h2; rw [if_pos (by omega)]
  ·rename_i h2; rw [if_neg (by omega), List.getElem?_drop]; congr 1; omega
theorem over_length (ts : List Ty) (o : Nat) (ps : List Ty) (h : o + ps.length ≤ ts.length) : (over ts o ps).length = ts.length := by
 simp [over]; omega
theorem run_storeB {P : Program} {w : World} {t e : TypeId} {g o : Nat} {cs : Array Value} {v : Value} (hg : w.heap[g]? = some (.cells cs e (0, 0))) (hsz : ∀ w, (sizeOf t).run P w = .ok v.cells.size w) (h1 : ∀ u ∈ v.cells.toList, u.oneCell' = true) (hfit : o + v.cells.size ≤ cs.size) :
  (Instr.storeAt t (.pointer (some ⟨g, o, none⟩)) v).run P w = .ok () (w.setRow g (cs.toList.take o ++ v.cells.toList ++ cs.toList.drop (o + v.cells.size)).toArray) := by
 have hst := run_storeCells_at P g o e v.cells.toList 0 cs w hg (by simpa using hfit) h1
 simp only [Nat.add_zero] at hst
 simp [Instr.storeAt, Instr.sureAddr, storeVar, hsz, hst]
theorem setRow_new {w : World} {g : Nat} {cs cs' : Array Value} {e : TypeId} (hg : w.heap[g]? = some (.cells cs e (0, 0))) : (w.setRow g cs').heap[g]? = some (.cells cs' e (0, 0)) := setRow_heap w g cs cs' e _ hg
theorem arr_one {ps : List Ty} {M : Fb} {w : World} {cs : Array Value} (h : ArrAt ps M w cs) : ∀ u ∈ cs.toList, u.oneCell' = true := by
 intro u hu
 obtain ⟨j, hj⟩ := List.mem_iff_getElem?.1 hu
 have hjl : j < ps.length := by rw [← h.1]; have := (List.getElem?_eq_some_iff.1 hj).1; simpa using this
 obtain ⟨z, hz, h1, _⟩ := h.2 j _ (List.getElem?_eq_getElem hjl)
 rw [← Array.getElem?_toList, hj] at hz
 cases hz; exact h1
theorem arr_over {ts ps : List Ty} {M : Fb} {w : World} {cs vs : Array Value} {o : Nat} (hc : ArrAt ts M w cs) (hv : ArrAt ps M w vs) (h : o + ps.length ≤ ts.length) :
  ArrAt (over ts o ps) M w (cs.toList.take o ++ vs.toList ++ cs.toList.drop (o + vs.size)).toArray := by
 have h1 := hc.1
 have h2 := hv.1
 refine ⟨by rw [over_length _ _ _ h]; simp; omega, fun j t ht => ?_⟩
 rw [over_get _ _ _ h] at ht
 have hto : (cs.toList.take o).length = o := by simp; omega
 simp only [List.append_assoc, List.getElem?_toArray]
 rw [List.getElem?_append, hto]
 split at ht
 ·rename_i hj
  rw [if_pos hj]
  obtain ⟨u, hu, h3⟩ := hc.2 j t ht
  exact ⟨u, by rw [List.getElem?_take, if_pos hj]; simpa using hu, h3⟩
 ·rename_i hj
  rw [if_neg hj, List.getElem?_append]
  split at ht
  ·rename_i hj2
   obtain ⟨u, hu, h3⟩ := hv.2 _ t ht
   exact ⟨u, by rw [if_pos (by simp; omega)]; simpa using hu, h3⟩
  ·rename_i hj2
   obtain ⟨u, hu, h3⟩ := hc.2 j t ht
   refine ⟨u, ?_, h3⟩
   rw [if_neg (by simp; omega), List.getElem?_drop]
   simp only [Array.length_toList, Array.getElem?_toList]
   rw [show o + vs.size + (j - o - vs.size) = j by omega]
   exact hu
theorem doesO_storeB {t e : TypeId} {x y : Operand} {g o : Nat} {ts ps : List Ty} {T : Ty} (n : Nat) (ts' : List Ty) (L' : List Item) (hx : opTy Γ x = some (pAt g o)) (hy : opTy Γ y = some T) (hp : PartTy T ps)
  (hsz : ∀ w, (sizeOf t).run κ.P w = .ok ps.length w) (hi : L[n]? = some (Item.blk g e ts)) (hfit : Nat.ble (o + ps.length) ts.length = true) (hts : ts' = over ts o ps) (hL : L' = L.set n (Item.blk g e ts'))
  (h : C (Ty.val undef) L') : DoesO κ ⟨dst, .store t x y, ty, pos, after, gd⟩ Γ L C :=
 doesO_unit fun a w s => by
  have h1 : a.eval x = .pointer (some ⟨g, o, none⟩) := opTy_holds s.env hx
  have hv := hp _ _ _ (opTy_holds s.env hy)
  obtain ⟨cs, hg, ha⟩ := s.holds.each _ (List.mem_of_getElem? hi)
  have hfit' := Nat.le_of_ble_eq_true hfit
  have hcv := hv.1
  have hr := run_storeB (P := κ.P) (t := t) (o := o) (v := a.eval y) hg (fun w => by rw [hcv]; exact hsz w) (arr_one hv) (by rw [hcv, ha.1]; exact hfit')
  have hw := s.holds.swapAt (i' := Item.blk g e ts') hi (w' := w.setRow g (cs.toList.take o ++ (a.eval y).cells.toList ++ cs.toList.drop (o + (a.eval y).cells.size)).toArray)
   (by simp) rfl rfl rfl (fun b _ hb => setRow_other w g b _ (fun q => hb q)) (fun b hb => .inl hb)
   (fun M hl => ⟨_, setRow_new hg, by rw [hts]; exact arr_over (ha.mono hl) (hv.mono hl) hfit'⟩)
  subst hL
  exact ⟨_, _, by simp [execOp, h1, hr], hw.1, hw.2, h⟩
end
end Go.Proofs.YtocfnpnnbmicmaaDoor.Tc
end
section
set_option linter.unusedVariables false
set_option linter.unusedSimpArgs false
namespace Go.Proofs.YtocfnpnnbmicmaaDoor.Tc
open Go Go.RowKit
structure ElTy (P : Program) (t e : TypeId) (z : Value) (sz bytes : Nat) : Prop where
 sl : P.underlying t = some (.slice e)
 info : ∃ i, P.info? e = some i ∧ i.zero = some z ∧ i.size = sz ∧ i.bytes = bytes
 zc : z.cells.size = sz
 pos : 0 < sz
theorem ElTy.run {P : Program} {t e : TypeId} {z : Value} {sz bytes : Nat} (h : ElTy P t e z sz bytes) : ∀ w, (sizeOf e).run P w = .ok sz w := by
 obtain ⟨i, hi, _, h2, _⟩ := h.info
 intro w; simp [sizeOf, typeInfo, hi, h2]
theorem ElTy.mk' {P : Program} {t e : TypeId} {z : Value} {sz bytes : Nat} (h1 : P.underlying t = some (.slice e)) (h2 : (P.info? e).map (fun i => (i.zero, i.size, i.bytes)) = some (some z, sz, bytes)) (h3 : z.cells.size = sz) (h4 : 0 < sz) : ElTy P t e z sz bytes := by
 refine ⟨h1, ?_, h3, h4⟩
 cases hi : P.info? e with
 | none => rw [hi] at h2; cases h2
 | some i =>
  rw [hi] at h2
  simp only [Option.map_some, Option.some.injEq, Prod.mk.injEq] at h2
  exact ⟨i, rfl, h2.1, h2.2.1, h2.2.2⟩
theorem row_one {v : Value} {e : TypeId} {sz : Nat} {ess : List (List Ty)} {M : Fb} {w : World} (h : RowAt v e sz ess M w) : v.oneCell' = true := by
 rcases h with ⟨rfl, _⟩ | ⟨g, cap, cur, rfl, _⟩ <;> rfl
theorem row_len {v : Value} {e : TypeId} {sz : Nat} {ess : List (List Ty)} {M : Fb} {w : World} (h : RowAt v e sz ess M w) : ∃ A c, v = .slice A ess.length c := by
 rcases h with ⟨rfl, rfl⟩ | ⟨g, cap, cur, rfl, _⟩
 ·exact ⟨_, _, rfl⟩
 ·exact ⟨_, _, rfl⟩
theorem els_flat {sz : Nat} : ∀ {ess : List (List Ty)}, (∀ es, es ∈ ess → es.length = sz) → ∀ (i j : Nat), j < sz → ess.flatten[i * sz + j]? = (ess[i]?).bind (·[j]?)
 | [], _, i, j, _ => by simp
 | es :: ess, h, i, j, hj => by
  have h0 := h es (by simp)
  rw [List.flatten_cons, List.getElem?_append]
  cases i with
  | zero => simp [h0, hj]
  | succ i =>
   rw [if_neg (by rw [h0, Nat.add_mul]; omega), h0]
   have := els_flat (ess := ess) (fun es hes => h es (by simp [hes])) i j hj
   rw [show (i + 1) * sz + j - sz = i * sz + j by rw [Nat.add_mul]; omega, this]
   simp
theorem flat_len {sz : Nat} : ∀ {ess : List (List Ty)}, (∀ es, es ∈ ess → es.length = sz) → ess.flatten.length = ess.length * sz
 | [], _ => by simp
 | es :: ess, h => by
  rw [List.flatten_cons, List.length_append, flat_len (fun es hes => h es (by simp [hes])), h es (by simp), List.length_cons, Nat.add_mul]; omega
theorem els_of {sz : Nat} {ess : List (List Ty)} {M : Fb} {w : World} {cur : Array Value} (h : ElsAt sz ess M w cur) : ∀ es, es ∈ ess → es.length = sz := fun es hes => by
 obtain ⟨i, hi⟩ := List.mem_iff_getElem?.1 hes
 exact (h i es hi).1
theorem els_arr {sz : Nat} {ess : List (List Ty)} {M : Fb} {w : World} {cur : Array Value} (hp : 0 < sz) (h : ElsAt sz ess M w cur) : ∀ (j : Nat) (t : Ty), ess.flatten[j]? = some t → ∃ u, cur[j]? = some u ∧ u.oneCell' = true ∧ t.holds M w u := by
 intro j t ht
 have hj : j = j / sz * sz + j % sz := (Nat.div_add_mod' j sz).symm
 have hlt : j % sz < sz := Nat.mod_lt _ hp
 rw [hj, els_flat (els_of h) _ _ hlt] at ht
 cases he : ess[j / sz]? with
 | none => rw [he] at ht; cases ht
 | some es =>
  rw [he] at ht
  obtain ⟨u, hu⟩ := (h _ es he).2 (j % sz) t ht
  rw [← hj] at hu
  exact ⟨u, hu⟩
theorem arr_els {sz : Nat} {ess : List (List Ty)} {M : Fb} {w : World} {cur : Array Value} (hl : ∀ es, es ∈ ess → es.length = sz) (h : ∀ (j : Nat) (t : Ty), ess.flatten[j]? = some t → ∃ u, cur[j]? = some u ∧ u.oneCell' = true ∧ t.holds M w u) : ElsAt sz ess M w cur := by
 intro i es hi
 refine ⟨hl es (List.mem_of_getElem? hi), fun j t ht => ?_⟩
 have hj : j < sz := by have := (List.getElem?_eq_some_iff.1 ht).1; rw [hl es (List.mem_of_getElem? hi)] at this; exact this
 exact h _ t (by rw [els_flat hl _ _ hj, hi]; exact ht)
theorem sl_cells {sz : Nat} {ess : List (List Ty)} {M : Fb} {w : World} {v : Value} (hp : 0 < sz) (h : (Ty.slice sz ess).holds M w v) :
  ∃ A c, v = .slice A ess.length c ∧ (∀ es, es ∈ ess → es.length = sz) ∧ ∃ cs : List Value, cs.length = ess.length * sz ∧ (ess ≠ [] → ∃ a, A = some a ∧ ∀ j u, cs[j]? = some u → w.cell? (a.add j) = some u) ∧ ArrAt ess.flatten M w cs.toArray := by
 obtain ⟨A, c, hv, hc, he⟩ := h
 have hl : ∀ es, es ∈ ess → es.length = sz := fun es hes => by
  obtain ⟨i, hi⟩ := List.mem_iff_getElem?.1 hes
  exact (he i es hi).1
 refine ⟨A, c, hv, hl, ?_⟩
 cases hess : ess with
 | nil => exact ⟨[], by simp, fun h => absurd rfl h, ⟨by simp, fun j t ht => by simp at ht⟩⟩
 | cons es0 ess0 =>
  obtain ⟨_, a, rfl, _⟩ := he 0 es0 (by rw [hess]; rfl)
  have hpt : PtAt M w a ess.flatten := by
   intro j t ht
   have hj : j = j / sz * sz + j % sz := (Nat.div_add_mod' j sz).symm
   have hlt : j % sz < sz := Nat.mod_lt _ hp
   rw [hj, els_flat hl _ _ hlt] at ht
   cases hi : ess[j / sz]? with
   | none => rw [hi] at ht; cases ht
   | some es =>
    rw [hi] at ht
    obtain ⟨_, a', ha', hq⟩ := he _ es hi
    cases ha'
    obtain ⟨h1, u, hu⟩ := hq (j % sz) t ht
    rw [add_add, ← hj] at hu
    exact ⟨by rw [add_block] at h1; exact h1, u, hu⟩
  obtain ⟨cs, h1, h2, h3⟩ := hpt.cells
  rw [← hess]
  exact ⟨cs, by rw [h1, flat_len hl], fun _ => ⟨a, rfl, h2⟩, h3⟩
section
variable {κ : Kx} {Q : Post} {Γ : Cx} {L : List Item} {ops : Array Oper} {rest : List Oper}
variable {dst : Option Nat} {ty : TypeId} {pos : String} {after : Array Edge}
theorem run_append_row {P : Program} {t e ty : TypeId} {z : Value} {sz bytes : Nat} (hE : ElTy P t e z sz bytes) {gl : Gl} {L : List Item} {w : World} {v x : Value} {ess fss : List (List Ty)} (h : Holds gl L w) (n : Nat) (hi : L[n]? = some (Item.row v e sz ess))
  (hx : (Ty.slice sz fss).holds (foot L) w x) (hb : (ess.length + fss.length) * bytes ≤ 140737488355328) (hm : ess.length + fss.length ≤ maxLen) :
  ∃ v' w', (Builtin.append_ #[t, t] ty #[v, x]).run P w = .ok v' w' ∧ Holds gl (L.set n (Item.row v' e sz (ess ++ fss))) w' ∧ Le (foot L) w (foot (L.set n (Item.row v' e sz (ess ++ fss)))) w' ∧ v'.oneCell' = true := by
 obtain ⟨i, hi1, hi2, hi3, hi4⟩ := hE.info
 obtain ⟨A, c, rfl, hfl, cs, hcl, hcc, hca⟩ := sl_cells hE.pos hx
 have hrow : RowAt v e sz ess (foot L) w := h.each _ (List.mem_of_getElem? hi)
 by_cases hf : fss = []
 ·subst hf
  have hr : (Builtin.append_ #[t, t] ty #[v, .slice A 0 c]).run P w = .ok v w := by
   rcases hrow with ⟨rfl, rfl⟩ | ⟨g, cap, cur, rfl, hg, h1, h2, h3, h4⟩
   ·cases A with
    | none => simp [Builtin.append_, run_underlying hE.sl, sizeOf, typeInfo, hi1, Builtin.lenOf, Builtin.firstCells]
    | some a => simp [Builtin.append_, run_underlying hE.sl, sizeOf, typeInfo, hi1, Builtin.lenOf, Builtin.firstCells, loadCells, loadCellsFrom]
   ·cases A with
    | none => simp [Builtin.append_, run_underlying hE.sl, sizeOf, typeInfo, hi1, Builtin.lenOf, Builtin.firstCells, h1, storeCells]
    | some a => simp [Builtin.append_, run_underlying hE.sl, sizeOf, typeInfo, hi1, Builtin.lenOf, Builtin.firstCells, h1, storeCells, loadCells, loadCellsFrom]
  refine ⟨v, w, hr, ?_⟩
  have := h.swapAt (i' := Item.row v e sz (ess ++ [])) hi (Nat.le_refl _) rfl rfl rfl (fun _ _ _ => rfl) (fun b hb => .inl hb) (fun M hl => by
   rw [List.append_nil]; exact (Item.row v e sz ess).stable hrow (fun _ _ _ => rfl) hl)
  exact ⟨this.1, this.2, row_one hrow⟩
 ·obtain ⟨a, rfl, hcells⟩ := hcc hf
  have hall : ∀ u ∈ cs, u.oneCell' = true := by have := arr_one hca; simpa using this
  have hown : ∃ xs, w.ownsRow 0 e sz v ess.length xs ∧ ElsAt sz ess (foot L) w xs.toArray ∧ xs.length = ess.length * sz := by
   rcases hrow with ⟨rfl, rfl⟩ | ⟨g, cap, cur, rfl, hg, h1, h2, h3, h4⟩
   ·exact ⟨[], ⟨by simp, .inl ⟨rfl, rfl⟩⟩, fun i es he => by simp at he, by simp⟩
   ·have hle : ess.length * sz ≤ cap * sz := Nat.mul_le_mul_right _ h1
    refine ⟨cur.toList.take (ess.length * sz), ⟨by simp; omega, .inr ⟨g, cap, cur, rfl, Nat.zero_le _, hg, h1, h2, h3, rfl⟩⟩, fun i es he => ⟨(h4 i es he).1, fun j T hT => ?_⟩, by simp; omega⟩
    obtain ⟨u, hu, hu2⟩ := (h4 i es he).2 j T hT
    refine ⟨u, ?_, hu2⟩
    have hil : i < ess.length := (List.getElem?_eq_some_iff.1 he).1
    have hjl : j < sz := by have := (List.getElem?_eq_some_iff.1 hT).1; rw [(h4 i es he).1] at this; exact this
    have : i * sz + j < ess.length * sz := by
     have h6 : (i + 1) * sz ≤ ess.length * sz := Nat.mul_le_mul_right _ hil
     rw [Nat.add_mul] at h6; omega
    simp only [List.getElem?_toArray, List.getElem?_take, if_pos this]
    simpa using hu
  obtain ⟨xs, hown, hels, hxl⟩ := hown
  obtain ⟨v', w', hrun, hown', hgr, _, hblk⟩ := run_append_own_at (P := P) w 0 t ty e i z sz bytes hE.sl hi1 hi2 hi3 hi4 hE.zc hE.pos v ess.length xs hown a fss.length c cs hcl hcells hall hm hb (Nat.zero_le _)
  refine ⟨v', w', hrun, ?_⟩
  have hfoot : ∀ b, (Item.row v' e sz (ess ++ fss)).foot b → (Item.row v e sz ess).foot b ∨ w.heap.size ≤ b := by
   intro b hb
   have hb' : v'.ownBlock = some b := hb
   rcases hblk with q | q
   ·exact .inl (by rw [q] at hb'; exact hb')
   ·right; rw [q] at hb'; cases hb'; exact Nat.le_refl _
  have hsw := h.swapAt (i' := Item.row v' e sz (ess ++ fss)) hi hgr.size hgr.os hgr.tape hgr.output (fun b hb hnb => hgr.block b hb (fun q => hnb q.symm)) hfoot (fun M hl => by
   rcases hown'.2 with ⟨rfl, hz⟩ | ⟨g, cap, cur, rfl, _, hg, h1, h2, h3, h4⟩
   ·have : fss.length = 0 := by omega
    exact absurd (List.eq_nil_of_length_eq_zero this) hf
   ·refine .inr ⟨g, cap, cur, by simp, hg, by simpa using h1, h2, h3, ?_⟩
    have hel : ∀ es, es ∈ ess ++ fss → es.length = sz := fun es hes => by
     rcases List.mem_append.1 hes with q | q
     ·exact els_of hels es q
     ·exact hfl es q
    refine arr_els hel fun j T hT => ?_
    rw [List.flatten_append, List.getElem?_append, flat_len (els_of hels)] at hT
    have hcur : ∀ u, (xs ++ cs)[j]? = some u → cur[j]? = some u := fun u hu => by
     rw [← h4, List.getElem?_take] at hu
     split at hu
     ·simpa using hu
     ·cases hu
    split at hT
    ·rename_i hj
     obtain ⟨u, hu, hu1, hu2⟩ := els_arr hE.pos hels j T hT
     exact ⟨u, hcur u (by rw [List.getElem?_append, if_pos (by omega)]; simpa using hu), hu1, T.mono hu2 hl⟩
    ·rename_i hj
     obtain ⟨u, hu, hu1, hu2⟩ := hca.2 _ T hT
     exact ⟨u, hcur u (by rw [List.getElem?_append, if_neg (by omega), hxl]; simpa using hu), hu1, T.mono hu2 hl⟩)
  refine ⟨hsw.1, hsw.2, ?_⟩
  rcases hown'.2 with ⟨rfl, _⟩ | ⟨g, cap, cur, rfl, _⟩ <;> rfl
def app {α : Type} (bytes : Nat) (xs ys : List α) : Option (List α) := if (xs.length + ys.length) * bytes ≤ 140737488355328 ∧ xs.length + ys.length ≤ maxLen then some (xs ++ ys) else none
theorem doesO_append {gd : Option (Nat × Bool)} {C : Ty → List Item → Prop} {t e : TypeId} {z : Value} {sz bytes : Nat} {α : Type} {f : α → List Ty} {l m : List α} {s x : Operand} {v : Value} (hE : ElTy κ.P t e z sz bytes) (n : Nat) (r : List α) (L' : Value → List Item) (hr : app bytes l m = some r)
  (hs : opTy Γ s = some (Ty.own v)) (hi : L[n]? = some (rowL v e sz f l)) (hx : opTy Γ x = some (tL sz f m)) (hL : ∀ v', L' v' = L.set n (rowL v' e sz f r))
  (h : ∀ v', C (Ty.own v') (L' v')) : DoesO κ ⟨dst, .call ⟨.builtin .append, #[s, x], #[t, t]⟩, ty, pos, after, gd⟩ Γ L C :=
 doesO_run fun a w st => by
  have h1 : a.eval s = v := (opTy_holds st.env hs).1
  unfold app at hr
  split at hr
  ·rename_i hb
   cases hr
   obtain ⟨v', w', hrun, hh, hl, ho⟩ := run_append_row (ty := ty) hE st.holds n hi (opTy_holds st.env hx) (by simpa using hb.1) (by simpa using hb.2)
   have e1 : L' v' = L.set n (Item.row v' e sz (l.map f ++ m.map f)) := by rw [hL v', ← List.map_append]
   exact ⟨v', w', Ty.own v', L' v', by simp [execOp, resolve, invoke, builtin, h1, hrun], e1 ▸ hh, e1 ▸ hl, ⟨rfl, ho⟩, h v'⟩
  ·cases hr
theorem doesO_appendN {gd : Option (Nat × Bool)} {C : Ty → List Item → Prop} {t e : TypeId} {z : Value} {sz bytes : Nat} {α : Type} {f : α → List Ty} {m : List α} {s x : Operand} (hE : ElTy κ.P t e z sz bytes) (r : List α) (hr : app bytes [] m = some r)
  (hs : opTy Γ s = some (Ty.val (.slice none 0 0))) (hx : opTy Γ x = some (tL sz f m))
  (h : ∀ v', C (Ty.own v') (rowL v' e sz f r :: L)) : DoesO κ ⟨dst, .call ⟨.builtin .append, #[s, x], #[t, t]⟩, ty, pos, after, gd⟩ Γ L C :=
 doesO_run fun a w st => by
  have h1 : a.eval s = .slice none 0 0 := opTy_holds st.env hs
  unfold app at hr
  split at hr
  ·rename_i hb
   cases hr
   have hn := st.holds.new (i' := rowL (.slice none 0 0) e sz f []) (Nat.le_refl _) rfl rfl rfl (fun _ _ => rfl) (fun b hb => by have hb' : (Value.slice none 0 0).ownBlock = some b := hb; simp [Value.ownBlock] at hb') (fun M hl _ _ => .inl ⟨rfl, rfl⟩)
   obtain ⟨v', w', hrun, hh, hl, ho⟩ := run_append_row (ty := ty) hE hn.1 0 rfl ((tL sz f m).mono (opTy_holds st.env hx) hn.2) (by simpa using hb.1) (by simpa using hb.2)
   exact ⟨v', w', Ty.own v', rowL v' e sz f ([] ++ m) :: L, by simp [execOp, resolve, invoke, builtin, h1, hrun], by simpa using hh, hn.2.trans (by simpa using hl), ⟨rfl, ho⟩, h v'⟩
  ·cases hr
end
end Go.Proofs.YtocfnpnnbmicmaaDoor.Tc
end
section
set_option linter.unusedVariables false
set_option linter.unusedSimpArgs false
namespace Go.Proofs.YtocfnpnnbmicmaaDoor.Tc
open Go Go.RowKit
def Ty.rptr (v : Value) (o : Nat) : Ty := ⟨fun _ _ u => ∃ g n c, v = .slice (some ⟨g, 0, none⟩) n c ∧ u = .pointer (some ⟨g, o, none⟩), fun h _ => h⟩
section
variable {κ : Kx} {Q : Post} {Γ : Cx} {L : List Item} {ops : Array Oper} {rest : List Oper}
variable {dst : Option Nat} {ty : TypeId} {pos : String} {after : Array Edge} {gd : Option (Nat × Bool)} {C : Ty → List Item → Prop}
section rows
variable {α : Type} {sz bytes : Nat} {f : α → List Ty} {l : List α} {t e : TypeId} {z : Value} {x : Operand} {v : Value}
theorem does_lenR {tys : Array TypeId} (h0 : tys[0]? = some t) (hu : κ.P.underlying t = some (.slice e)) (n : Nat) (hx : opTy Γ x = some (Ty.own v)) (hi : L[n]? = some (rowL v e sz f l)) : Does κ ⟨dst, .call ⟨.builtin .len, #[x], tys⟩, ty, pos, after, gd⟩ Γ L (tI (l.length : Int)) :=
 does_of_run fun L' a w hs hh he => by
  obtain ⟨A, c, hv⟩ := row_len (hh.each _ (hs _ (List.mem_of_getElem? hi)))
  have h1 : a.eval x = v := (opTy_holds he hx).1
  exact ⟨_, by simp [execOp, resolve, invoke, builtin, Builtin.len_, h1, hv, h0, run_underlying hu, goInt], rfl⟩
theorem does_indexR {i : Operand} {k : IntKind} {m : Int} (hE : ElTy κ.P t e z sz bytes) (n : Nat) (y : α) (hidx : idx l m = some y) (hx : opTy Γ x = some (Ty.own v)) (hi : L[n]? = some (rowL v e sz f l)) (hm : opTy Γ i = some (tK k m)) :
  Does κ ⟨dst, .indexAddr t x i, ty, pos, after, gd⟩ Γ L (Ty.rptr v (m.toNat * sz)) :=
 does_of_run fun L' a w hs hh he => by
  have h1 : a.eval x = v := (opTy_holds he hx).1
  have h2 : a.eval i = .int k m := opTy_holds he hm
  obtain ⟨h3, h4, h5⟩ := idx_some hidx
  have hrow : RowAt v e sz (l.map f) (foot L') w := hh.each _ (hs _ (List.mem_of_getElem? hi))
  rcases hrow with ⟨rfl, hl⟩ | ⟨g, cap, cur, rfl, hg, h6, h7, h8, h9⟩
  ·rw [List.map_eq_nil_iff.1 hl] at h5; simp at h5
  ·simp only [List.length_map] at h1
   refine ⟨.pointer (some ⟨g, m.toNat * sz, none⟩), ?_, g, _, _, rfl, rfl⟩
   simp [execOp, h1, h2, Instr.indexAt, asIntOf, run_underlying hE.sl, h3, h4, hE.run, add_lit]
theorem does_fieldAddrR {s : TypeId} {j o : Nat} {fs : Array Field} {fl : Field} {k : Nat} (o' : Nat) (hu : κ.P.underlying s = some (.struct fs)) (hf : fs[j]? = some fl) (hk : ∀ w, (sizeOf fl.type).run κ.P w = .ok (k + 1) w)
  (hx : opTy Γ x = some (Ty.rptr v o)) (ho : o' = o + fl.offset) : Does κ ⟨dst, .fieldAddr s x j, ty, pos, after, gd⟩ Γ L (Ty.rptr v o') :=
 does_of_run fun L' a w _ _ he => by
  obtain ⟨g, n, c, hv, h1⟩ := opTy_holds he hx
  subst ho
  exact ⟨_, by simp [execOp, h1, Instr.fieldAt, run_underlying hu, hf, Instr.sureAddr, fieldPlace, hk, add_lit], g, n, c, hv, rfl⟩
theorem does_loadR1 {t' : TypeId} {m : Int} {T : Ty} (n : Nat) (y : α) (o : Nat) (hag : ∀ w, (isAgg t').run κ.P w = .ok false w) (hidx : idx l m = some y) (hx : opTy Γ x = some (Ty.rptr v (m.toNat * sz + o))) (hi : L[n]? = some (rowL v e sz f l)) (hT : (f y)[o]? = some T) :
  Does κ ⟨dst, .load t' x, ty, pos, after, gd⟩ Γ L T :=
 does_of_run fun L' a w hs hh he => by
  obtain ⟨g, _, c, hv, h1⟩ := opTy_holds he hx
  obtain ⟨h3, h4, h5⟩ := idx_some hidx
  have hrow : RowAt v e sz (l.map f) (foot L') w := hh.each _ (hs _ (List.mem_of_getElem? hi))
  rcases hrow with ⟨rfl, hl⟩ | ⟨g', cap, cur, hv', hg, h6, h7, h8, h9⟩
  ·cases hv
  ·rw [hv'] at hv; cases hv
   obtain ⟨_, h10⟩ := h9 m.toNat (f y) (by simp [h5])
   obtain ⟨u, hu, _, hu2⟩ := h10 o T hT
   exact ⟨u, by simp [execOp, h1, Instr.loadAt, Instr.sureAddr, loadVar, hag, blk_cell hg, hu], hu2⟩
theorem doesO_storeR {t' : TypeId} {m : Int} {x y : Operand} {ps : List Ty} {T : Ty} (n o : Nat) (y0 y1 : α) (r : List α) (L' : List Item) (hx : opTy Γ x = some (Ty.rptr v (m.toNat * sz + o))) (hy : opTy Γ y = some T) (hp : PartTy T ps)
  (hsz : ∀ w, (sizeOf t').run κ.P w = .ok ps.length w) (hi : L[n]? = some (rowL v e sz f l)) (hidx : idx l m = some y0) (hf1 : (f y1).length = sz) (hf : f y1 = over (f y0) o ps) (hfit : Nat.ble (o + ps.length) sz = true) (hr : r = l.set m.toNat y1) (hL : L' = L.set n (rowL v e sz f r))
  (h : C (Ty.val undef) L') : DoesO κ ⟨dst, .store t' x y, ty, pos, after, gd⟩ Γ L C :=
 doesO_unit fun a w s => by
  obtain ⟨g, _, c, hv0, h1⟩ := opTy_holds s.env hx
  have hv := hp _ _ _ (opTy_holds s.env hy)
  obtain ⟨h3, h4, h5⟩ := idx_some hidx
  have hfit' := Nat.le_of_ble_eq_true hfit
  have hrow : RowAt v e sz (l.map f) (foot L) w := s.holds.each _ (List.mem_of_getElem? hi)
  rcases hrow with ⟨rfl, hl⟩ | ⟨g', cap, cur, hv', hg, h6, h7, h8, h9⟩
  ·cases hv0
  ·rw [hv'] at hv0; cases hv0
   have hml : m.toNat < (l.map f).length := by simp; omega
   have hmc : (m.toNat + 1) * sz ≤ c * sz := Nat.mul_le_mul_right _ (by simp only [List.length_map] at h6; omega)
   rw [Nat.add_mul, Nat.one_mul] at hmc
   have hcv := hv.1
   have hro := run_storeB (P := κ.P) (t := t') (o := m.toNat * sz + o) (v := a.eval y) hg (fun w => by rw [hcv]; exact hsz w) (arr_one hv) (by rw [hcv, h8]; omega)
   have hw := s.holds.swapAt (i' := rowL v e sz f r) hi (w' := w.setRow g (cur.toList.take (m.toNat * sz + o) ++ (a.eval y).cells.toList ++ cur.toList.drop (m.toNat * sz + o + (a.eval y).cells.size)).toArray)
    (by simp) rfl rfl rfl (fun b _ hb => setRow_other w g b _ (fun q => hb (by rw [q]; show v.ownBlock = some g; rw [hv']; rfl))) (fun b hb => .inl hb)
    (fun M hl => by
     refine .inr ⟨g, c, _, by rw [hv']; simp [hr], setRow_new hg, by simpa [hr] using h6, h7, by simp; omega, fun i es hes => ?_⟩
     subst hr
     simp only [List.getElem?_map, List.getElem?_set, Option.map_eq_some_iff] at hes
     obtain ⟨q, hq, rfl⟩ := hes
     have hto : (cur.toList.take (m.toNat * sz + o)).length = m.toNat * sz + o := by simp; omega
     have hget : ∀ j, (cur.toList.take (m.toNat * sz + o) ++ (a.eval y).cells.toList ++ cur.toList.drop (m.toNat * sz + o + (a.eval y).cells.size)).toArray[j]? = if j < m.toNat * sz + o then cur[j]? else if j < m.toNat * sz + o + ps.length then (a.eval y).cells[j - (m.toNat * sz + o)]? else cur[j]? := by
      intro j
      simp only [List.append_assoc, List.getElem?_toArray]
      rw [List.getElem?_append, hto]
      split
      ·rename_i hj; rw [List.getElem?_take, if_pos hj]; simp
      ·rename_i hj
       rw [List.getElem?_append]
       simp only [Array.length_toList, hcv]
       split
       ·rename_i hj2; rw [if_pos (by omega)]; simp
       ·rename_i hj2; rw [if_neg (by omega), List.getElem?_drop, Array.getElem?_toList]; congr 1; omega
     split at hq
     ·rename_i him
      have hq' : q = y1 := by
       split at hq
       ·cases hq; rfl
       ·cases hq
      subst hq'
      refine ⟨hf1, fun j U hU => ?_⟩
      have hjl : j < sz := by have := (List.getElem?_eq_some_iff.1 hU).1; omega
      rw [hget]
      obtain ⟨h0l, h0⟩ := h9 m.toNat (f y0) (by simp [h5])
      rw [hf, over_get _ _ _ (by rw [h0l]; exact hfit')] at hU
      subst him
      split at hU
      ·rw [if_pos (by omega)]
       obtain ⟨u, hu, hu1, hu2⟩ := h0 j U hU
       exact ⟨u, hu, hu1, U.mono hu2 hl⟩
      ·rename_i hj
       rw [if_neg (by omega)]
       split at hU
       ·rw [if_pos (by omega)]
        obtain ⟨u, hu, hu1, hu2⟩ := hv.2 _ U hU
        exact ⟨u, by rw [← hu]; congr 1; omega, hu1, U.mono hu2 hl⟩
       ·rw [if_neg (by omega)]
        obtain ⟨u, hu, hu1, hu2⟩ := h0 j U hU
        exact ⟨u, hu, hu1, U.mono hu2 hl⟩
     ·rename_i him
      obtain ⟨h0l, h0⟩ := h9 i (f q) (by simp [hq])
      refine ⟨h0l, fun j U hU => ?_⟩
      have hjl : j < sz := by have := (List.getElem?_eq_some_iff.1 hU).1; omega
      rw [hget]
      obtain ⟨u, hu, hu1, hu2⟩ := h0 j U hU
      refine ⟨u, ?_, hu1, U.mono hu2 hl⟩
      rcases Nat.lt_or_ge i m.toNat with q1 | q1
      ·have h12 : (i + 1) * sz ≤ m.toNat * sz := Nat.mul_le_mul_right _ q1
       rw [Nat.add_mul, Nat.one_mul] at h12
       rw [if_pos (by omega)]; exact hu
      ·have h12 : (m.toNat + 1) * sz ≤ i * sz := Nat.mul_le_mul_right _ (by omega)
       rw [Nat.add_mul, Nat.one_mul] at h12
       rw [if_neg (by omega), if_neg (by omega)]; exact hu)
   subst hL
   exact ⟨_, _, by simp [execOp, h1, hro], hw.1, hw.2, h⟩
def mk {α : Type} (bytes : Nat) (n : Int) (y : α) : Option (List α) := if 0 ≤ n ∧ (bytes : Int) * n ≤ 281474976710656 ∧ n ≤ 9223372036854775807 then some (List.replicate n.toNat y) else none
theorem zcells_get (z : Array Value) (n i j : Nat) (hz : 0 < z.size) (hi : i < n) (hj : j < z.size) : (madeCells z (n * z.size))[i * z.size + j]? = z[j]? := by
 have hlt : i * z.size + j < n * z.size := by
  have : (i + 1) * z.size ≤ n * z.size := Nat.mul_le_mul_right _ hi
  rw [Nat.add_mul] at this; omega
 have hm : (i * z.size + j) % z.size = j := by rw [Nat.mul_comm, Nat.mul_add_mod]; exact Nat.mod_eq_of_lt hj
 simp [madeCells, hlt, hm, hj]
theorem doesO_make {n1 n2 : Operand} {k1 k2 : IntKind} {m : Int} (hE : ElTy κ.P t e z sz bytes) (y : α) (r : List α) (hr : mk bytes m y = some r) (h1 : opTy Γ n1 = some (tK k1 m)) (h2 : opTy Γ n2 = some (tK k2 m))
  (hz : PartTy (Ty.val z) (f y)) (h : ∀ v, C (Ty.own v) (rowL v e sz f r :: L)) : DoesO κ ⟨dst, .makeSlice t n1 n2, ty, pos, after, gd⟩ Γ L C :=
 doesO_run fun a w s => by
  unfold mk at hr
  split at hr
  ·rename_i hb
   cases hr
   obtain ⟨i, hi1, hi2, hi3, hi4⟩ := hE.info
   have e1 : a.eval n1 = .int k1 m := opTy_holds s.env h1
   have e2 : a.eval n2 = .int k2 m := opTy_holds s.env h2
   have hrun := run_make (P := κ.P) w t e i z hE.sl hi1 hi2 k1 k2 m m hb.1 (Int.le_refl _) (by rw [hi4]; exact hb.2.1) hb.2.2
   rw [hi3] at hrun
   have hnew := s.holds.new (i' := rowL (.slice (some ⟨w.heap.size, 0, none⟩) m.toNat m.toNat) e sz f (List.replicate m.toNat y)) (w' := w.alloc (.cells (madeCells z.cells (m.toNat * sz)) e)) (by simp) rfl rfl rfl (fun b hb => Below.heap_alloc w _ b hb)
    (fun b hb => by have hb' : (Value.slice (some ⟨w.heap.size, 0, none⟩) m.toNat m.toNat).ownBlock = some b := hb; simp only [Value.ownBlock, Option.some.injEq] at hb'; omega)
    (fun M hl _ _ => by
     refine .inr ⟨w.heap.size, m.toNat, madeCells z.cells (m.toNat * sz), by simp, heap_alloc_new w _, by simp, by simp only [maxLen]; omega, size_madeCells _ _, fun i es hes => ?_⟩
     simp only [List.getElem?_map, List.getElem?_replicate, Option.map_eq_some_iff] at hes
     obtain ⟨q, hq, rfl⟩ := hes
     split at hq
     ·rename_i him
      cases hq
      have hzc := hz M (w.alloc (.cells (madeCells z.cells (m.toNat * sz)) e)) z rfl
      refine ⟨by rw [← hzc.1]; exact hE.zc, fun j U hU => ?_⟩
      obtain ⟨u, hu, hu1⟩ := hzc.2 j U hU
      have hjz : j < z.cells.size := (Array.getElem?_eq_some_iff.1 hu).1
      refine ⟨u, ?_, hu1⟩
      have := zcells_get z.cells m.toNat i j (by rw [hE.zc]; exact hE.pos) him hjz
      rw [hE.zc] at this
      rw [this]; exact hu
     ·cases hq)
   exact ⟨_, _, Ty.own (.slice (some ⟨w.heap.size, 0, none⟩) m.toNat m.toNat), _, by simp [execOp, e1, e2, hrun], hnew.1, hnew.2, ⟨rfl, rfl⟩, h _⟩
  ·cases hr
end rows
end
end Go.Proofs.YtocfnpnnbmicmaaDoor.Tc
end
section
set_option linter.unusedVariables false
set_option linter.unusedSimpArgs false
namespace Go.Proofs.YtocfnpnnbmicmaaDoor.Tc
open Go Go.RowKit
theorem row_slice {v : Value} {e : TypeId} {sz : Nat} {ess : List (List Ty)} {M M' : Fb} {w : World} (h : RowAt v e sz ess M w) (hl : Le M w M' w) (hm : ∀ b, v.ownBlock = some b → ¬ M' b) : (Ty.slice sz ess).holds M' w v := by
 rcases h with ⟨rfl, rfl⟩ | ⟨g, cap, cur, rfl, hg, h1, h2, h3, h4⟩
 ·exact ⟨none, 0, rfl, Nat.le_refl _, fun i es hi => by simp at hi⟩
 ·refine ⟨_, cap, rfl, h1, fun i es hi => ?_⟩
  obtain ⟨h5, h6⟩ := h4 i es hi
  refine ⟨h5, _, rfl, fun j T hT => ⟨by rw [add_block]; exact hm g rfl, ?_⟩⟩
  obtain ⟨u, hu, hu1, hu2⟩ := h6 j T hT
  exact ⟨u, by rw [add_add, add_lit, blk_cell hg, Nat.zero_add]; exact hu, hu1, T.mono hu2 hl⟩
theorem erase_facts {gl : Gl} {L : List Item} {w : World} {n : Nat} {i : Item} (h : Holds gl L w) (hn : L[n]? = some i) :
  Holds gl (L.eraseIdx n) w ∧ Le (foot L) w (foot (L.eraseIdx n)) w ∧ (∀ b, i.foot b → ¬ foot (L.eraseIdx n) b) := by
 have hp := erase_at hn
 have h1 := h.perm hp
 refine ⟨h1.tail, (le_perm hp w).trans (Le.of_iff w fun b hb => (foot_cons i _ b).2 (.inr hb)), fun b hb ⟨it, hit, hf⟩ => (List.pairwise_cons.1 h1.apart).1 it hit b hb hf⟩
section
variable {κ : Kx} {Q : Post} {Γ : Cx} {L : List Item} {ops : Array Oper} {rest : List Oper}
def retype (T : Ty) : List Nat → Cx → Cx
 | [], Γ => Γ
 | t :: ts, Γ => (t, T) :: retype T ts Γ
theorem env_retype {L' : List Item} {tmps : Array Value} {w : World} {T : Ty} : ∀ (ts : List Nat), (∀ t, t ∈ ts → T.holds (foot L') w (tmps.getD t undef)) → EnvOk Γ L' tmps w → EnvOk (retype T ts Γ) L' tmps w
 | [], _, h => h
 | t :: ts, ht, h => fun i U hi => by
  simp only [retype, Cx.look] at hi
  split at hi
  ·rename_i hk; cases hi; subst hk; exact ht _ (by simp)
  ·exact env_retype ts (fun t h => ht t (by simp [h])) h i U hi
def AllOwn (Γ : Cx) (v : Value) : List Nat → Prop
 | [] => True
 | t :: ts => Γ.look t = some (Ty.own v) ∧ AllOwn Γ v ts
theorem AllOwn.at {v : Value} : ∀ {ts : List Nat}, AllOwn Γ v ts → ∀ t, t ∈ ts → Γ.look t = some (Ty.own v)
 | _ :: _, h, t, ht => by
  rcases List.mem_cons.1 ht with rfl | q
  ·exact h.1
  ·exact AllOwn.at h.2 t q
theorem Sat.publish {a : Act} {w : World} {v : Value} {e : TypeId} {sz : Nat} {ess : List (List Ty)} (s : Sat κ Γ L a w) (n : Nat) (ts : List Nat) (hi : L[n]? = some (Item.row v e sz ess)) (ht : AllOwn Γ v ts) : Sat κ (retype (Ty.slice sz ess) ts Γ) (L.eraseIdx n) a w := by
 obtain ⟨h1, h2, h3⟩ := erase_facts s.holds hi
 have hrow : RowAt v e sz ess (foot L) w := s.holds.each _ (List.mem_of_getElem? hi)
 refine ⟨s.defers, s.size, h1, s.le.trans h2, env_retype ts (fun t h => ?_) (s.env.le h2)⟩
 have := (s.env t _ (ht.at t h)).1
 rw [this]
 exact row_slice hrow h2 (fun b hb => h3 b hb)
theorem okL_publish {v : Value} {e : TypeId} {sz : Nat} {ess : List (List Ty)} (n : Nat) (ts : List Nat) (L' : List Item) (hi : L[n]? = some (Item.row v e sz ess)) (ht : AllOwn Γ v ts) (hL : L' = L.eraseIdx n) (h : OkL κ ops Q rest (retype (Ty.slice sz ess) ts Γ) L') : OkL κ ops Q rest Γ L := fun a w s => by
 subst hL; exact h a w (s.publish n ts hi ht)
theorem okC_publish {c : Code} {v : Value} {e : TypeId} {sz : Nat} {ess : List (List Ty)} (n : Nat) (ts : List Nat) (L' : List Item) (hi : L[n]? = some (Item.row v e sz ess)) (ht : AllOwn Γ v ts) (hL : L' = L.eraseIdx n) (h : OkC κ c Q (retype (Ty.slice sz ess) ts Γ) L') : OkC κ c Q Γ L := fun a w s => by
 subst hL; exact h a w (s.publish n ts hi ht)
theorem okX_publish {x : Exit} {v : Value} {e : TypeId} {sz : Nat} {ess : List (List Ty)} (n : Nat) (ts : List Nat) (L' : List Item) (hi : L[n]? = some (Item.row v e sz ess)) (ht : AllOwn Γ v ts) (hL : L' = L.eraseIdx n) (h : OkX κ Q x (retype (Ty.slice sz ess) ts Γ) L') : OkX κ Q x Γ L := fun a w s => by
 subst hL; exact h a w (s.publish n ts hi ht)
theorem Sat.publishB {a : Act} {w : World} {v : Value} {e e2 : TypeId} {sz g j : Nat} {ess : List (List Ty)} {us : List Ty} {R : List Item} (s : Sat κ Γ (Item.row v e sz ess :: Item.blk g e2 us :: R) a w) (ts : List Nat) (hj : us[j]? = some (Ty.own v)) (ht : AllOwn Γ v ts) :
  Sat κ (retype (Ty.slice sz ess) ts Γ) (Item.blk g e2 (us.set j (Ty.slice sz ess)) :: R) a w := by
 obtain ⟨h1, h2, h3⟩ := erase_facts s.holds (n := 0) rfl
 have hrow : RowAt v e sz ess (foot (Item.row v e sz ess :: Item.blk g e2 us :: R)) w := s.holds.each (Item.row v e sz ess) (by simp)
 have hsl : (Ty.slice sz ess).holds (foot (Item.blk g e2 us :: R)) w v := row_slice hrow h2 (fun b hb => h3 b hb)
 have hle : Le (foot (Item.blk g e2 us :: R)) w (foot (Item.blk g e2 (us.set j (Ty.slice sz ess)) :: R)) w := Le.of_iff w fun b hb => by
  rcases (foot_cons _ _ b).1 hb with q | q
  ·exact (foot_cons _ _ b).2 (.inl q)
  ·exact (foot_cons _ _ b).2 (.inr q)
 have h4 := Holds.swap (i' := Item.blk g e2 (us.set j (Ty.slice sz ess))) (show Holds κ.gl (Item.blk g e2 us :: R) w from h1) (Nat.le_refl _) rfl rfl rfl (fun _ _ _ => rfl) (fun b hb => .inl hb) (fun M hl _ _ => by
  obtain ⟨cs, hg, ha⟩ : BlkAt g e2 us (foot (Item.blk g e2 us :: R)) w := h1.each (Item.blk g e2 us) (by simp)
  refine ⟨cs, hg, by simp [ha.1], fun i T hT => ?_⟩
  rw [List.getElem?_set] at hT
  split at hT
  ·rename_i hji
   subst hji
   obtain ⟨u, hu, hu1, hu2⟩ := ha.2 j _ hj
   split at hT
   ·cases hT
    have : u = v := hu2.1
    subst this
    exact ⟨u, hu, hu1, (Ty.slice sz ess).mono hsl hl⟩
   ·cases hT
  ·obtain ⟨u, hu, hu1, hu2⟩ := ha.2 i T hT
   exact ⟨u, hu, hu1, T.mono hu2 hl⟩)
 refine ⟨s.defers, s.size, h4.1, (s.le.trans h2).trans h4.2, env_retype ts (fun t h => ?_) ((s.env.le h2).le h4.2)⟩
 have := (s.env t _ (ht.at t h)).1
 rw [this]
 exact (Ty.slice sz ess).mono hsl h4.2
theorem okL_publishB {v : Value} {e e2 : TypeId} {sz g : Nat} {ess : List (List Ty)} {us : List Ty} {R : List Item} (j : Nat) (ts : List Nat) (us' : List Ty) (hL : L.Perm (Item.row v e sz ess :: Item.blk g e2 us :: R)) (hj : us[j]? = some (Ty.own v)) (ht : AllOwn Γ v ts) (hu : us' = us.set j (Ty.slice sz ess))
  (h : OkL κ ops Q rest (retype (Ty.slice sz ess) ts Γ) (Item.blk g e2 us' :: R)) : OkL κ ops Q rest Γ L := fun a w s => by
 subst hu; exact h a w ((s.perm hL).publishB ts hj ht)
def ArgsOk (As : List Ty) (M : Fb) (w : World) (vs : Array Value) : Prop := vs.size = As.length ∧ ∀ (j : Nat) (T : Ty), As[j]? = some T → ∃ v, vs[j]? = some v ∧ T.holds M w v
def CallOk (P : Program) (gl : Gl) (f : FuncId) (As : List Ty) (Lin : List Item) (X : Type) (Out : X → Ty × List Item) : Prop :=
 ∀ (L : List Item) (w : World) (vs : Array Value), Holds gl (Lin ++ L) w → ArgsOk As (foot (Lin ++ L)) w vs →
  Calls P f vs w fun e w' => ∃ v x, e = .returned v ∧ Holds gl ((Out x).2 ++ L) w' ∧ Le (foot (Lin ++ L)) w (foot ((Out x).2 ++ L)) w' ∧ (Out x).1.holds (foot ((Out x).2 ++ L)) w' v
def CallP (P : Program) (gl : Gl) (f : FuncId) (As : List Ty) (T : Ty) : Prop := CallOk P gl f As [] Unit (fun _ => (T, []))
variable {dst : Option Nat} {ty : TypeId} {pos : String} {after : Array Edge} {gd : Option (Nat × Bool)}
theorem args_ok {L' : List Item} {a : Act} {w : World} {xs : Array Operand} {As Cs : List Ty} {caps : Array Value} (he : EnvOk Γ L' a.tmps w) (hx : xs.toList.map (opTy Γ) = As.map some) (hc : caps.toList.map Ty.val = Cs) : ArgsOk (As ++ Cs) (foot L') w (xs.map a.eval ++ caps) := by
 have hl : xs.size = As.length := by have := congrArg List.length hx; simpa using this
 have hcl : caps.size = Cs.length := by rw [← hc]; simp
 refine ⟨by simp [hl, hcl], fun j T hT => ?_⟩
 rw [List.getElem?_append] at hT
 rw [Array.getElem?_append]
 simp only [Array.size_map]
 split at hT
 ·rename_i hj
  rw [if_pos (by omega)]
  have h1 := congrArg (fun l => l[j]?) hx
  simp only [List.getElem?_map, hT, Option.map_some, Option.map_eq_some_iff] at h1
  obtain ⟨x, hx1, hx2⟩ := h1
  exact ⟨a.eval x, by simpa using ⟨x, by simpa using hx1, rfl⟩, opTy_holds he hx2⟩
 ·rename_i hj
  rw [if_neg (by omega)]
  subst hc
  simp only [List.getElem?_map, Option.map_eq_some_iff] at hT
  obtain ⟨u, hu, rfl⟩ := hT
  exact ⟨u, by rw [hl]; simpa using hu, rfl⟩
theorem run_call {a : Act} {w : World} {fo : Operand} {xs : Array Operand} {tys : Array TypeId} {f : FuncId} {caps : Array Value} (hf : a.eval fo = .func (.func f) #[] caps) (hc : ∀ args w, (callFunc f args).run κ.P w = .ok (.enter f args) w) :
  (execOp a.eval ⟨dst, .call ⟨.value fo, xs, tys⟩, ty, pos, after, gd⟩).run κ.P w = .ok (.enter f (xs.map a.eval ++ caps)) w := by
 simp [execOp, resolve, Deferred.ofValue, hf, invoke, hc]
theorem does_call {fo : Operand} {xs : Array Operand} {tys : Array TypeId} {f : FuncId} {caps : Array Value} {As Cs Bs : List Ty} {T : Ty} (hC : CallP κ.P κ.gl f Bs T) (hf : opTy Γ fo = some (Ty.val (.func (.func f) #[] caps))) (hc : ∀ args w, (callFunc f args).run κ.P w = .ok (.enter f args) w)
  (hx : xs.toList.map (opTy Γ) = As.map some) (hcs : caps.toList.map Ty.val = Cs) (hB : Bs = As ++ Cs) : Does κ ⟨dst, .call ⟨.value fo, xs, tys⟩, ty, pos, after, gd⟩ Γ L T := fun L' a w hs hh he K Q hk => by
 have e1 : a.eval fo = .func (.func f) #[] caps := opTy_holds he hf
 unfold Oper.wp
 rw [run_call e1 hc]
 subst hB
 refine (hC L' w _ hh (args_ok he hx hcs)).mono ?_
 rintro e w' ⟨v, _, rfl, h1, h2, h3⟩
 exact hk v w' h1 h2 h3
theorem doesO_call {C : Ty → List Item → Prop} {X : Type} {Out : X → Ty × List Item} {Lin : List Item} {fo : Operand} {xs : Array Operand} {tys : Array TypeId} {f : FuncId} {caps : Array Value} {As Cs Bs : List Ty} (Lr : List Item) (hC : CallOk κ.P κ.gl f Bs Lin X Out)
  (hf : opTy Γ fo = some (Ty.val (.func (.func f) #[] caps))) (hc : ∀ args w, (callFunc f args).run κ.P w = .ok (.enter f args) w)
  (hx : xs.toList.map (opTy Γ) = As.map some) (hcs : caps.toList.map Ty.val = Cs) (hB : Bs = As ++ Cs) (hL : L.Perm (Lin ++ Lr)) (h : ∀ x, C (Out x).1 ((Out x).2 ++ Lr)) :
  DoesO κ ⟨dst, .call ⟨.value fo, xs, tys⟩, ty, pos, after, gd⟩ Γ L C := fun a w s0 K Q hk => by
 have s := s0.perm hL
 have e1 : a.eval fo = .func (.func f) #[] caps := opTy_holds s.env hf
 unfold Oper.wp
 rw [run_call e1 hc]
 subst hB
 refine (hC Lr w _ s.holds (args_ok s.env hx hcs)).mono ?_
 rintro e w' ⟨v, x, rfl, h1, h2, h3⟩
 exact hk _ _ _ _ h1 ((le_perm hL w).trans h2) h3 (h x)
def RetP (gl : Gl) (L0 : List Item) (w0 : World) (Lt : List Item) {X : Type} (Out : X → Ty × List Item) : Ending → World → Prop :=
 fun e w' => ∃ v x, e = .returned v ∧ Holds gl ((Out x).2 ++ Lt) w' ∧ Le (foot L0) w0 (foot ((Out x).2 ++ Lt)) w' ∧ (Out x).1.holds (foot ((Out x).2 ++ Lt)) w' v
def number : Nat → List Ty → Cx
 | _, [] => []
 | k, T :: r => (k, T) :: number (k + 1) r
theorem number_look : ∀ (As : List Ty) (k t : Nat) (T : Ty), (number k As).look t = some T → ∃ j, t = k + j ∧ As[j]? = some T
 | [], _, _, _, h => by cases h
 | A :: As, k, t, T, h => by
  simp only [number, Cx.look] at h
  split at h
  ·rename_i hk; cases h; exact ⟨0, hk.symm, rfl⟩
  ·obtain ⟨j, h1, h2⟩ := number_look As (k + 1) t T h
   exact ⟨j + 1, by omega, by simpa using h2⟩
theorem call_of_code {P : Program} {gl : Gl} {f : FuncId} {fn : Func} {c : Code} {n : Nat} {As : List Ty} {Lin : List Item} {X : Type} {Out : X → Ty × List Item} (hf : P.funcs[f]? = some fn) (hb : fn.body = some c) (hn : fn.ntmps = n) (hle : Nat.ble As.length n = true)
  (h : ∀ (L : List Item) (w : World), OkC ⟨P, gl, n, Lin ++ L, w⟩ c (bodyPost P fn (RetP gl (Lin ++ L) w L Out)) (number 0 As) (Lin ++ L)) : CallOk P gl f As Lin X Out := fun L w vs hh ha => by
 refine calls_of_wp hf hb (h L w _ w ⟨rfl, ?_, hh, Le.refl _ _, fun t T ht => ?_⟩)
 ·have := Nat.le_of_ble_eq_true hle
  have h1 := ha.1
  show (vs ++ Array.replicate (fn.ntmps - vs.size) undef).size = n
  simp [hn]; omega
 ·obtain ⟨j, h1, h2⟩ := number_look As 0 t T ht
  obtain ⟨v, hv, hT⟩ := ha.2 j T h2
  have : t = j := by omega
  subst this
  have hlt : t < vs.size := (Array.getElem?_eq_some_iff.1 hv).1
  have e1 : (vs ++ Array.replicate (fn.ntmps - vs.size) undef).getD t undef = v := by
   rw [Array.getD_eq_getD_getElem?, Array.getElem?_append_left hlt, hv]; rfl
  show T.holds _ w ((vs ++ Array.replicate (fn.ntmps - vs.size) undef).getD t undef)
  rw [e1]; exact hT
section ret
variable {P : Program} {gl : Gl} {n : Nat} {L0 Lt : List Item} {w0 : World} {fn : Func} {X : Type} {Out : X → Ty × List Item}
theorem okX_ret1 {t : Nat} (x : X) (hr : fn.results = #[.tmp t]) (ht : Γ.look t = some (Out x).1) (hL : L = (Out x).2 ++ Lt) : OkX ⟨P, gl, n, L0, w0⟩ (bodyPost P fn (RetP gl L0 w0 Lt Out)) .ret Γ L := fun a w s => by
 subst hL
 exact ⟨s.defers, _, results_tmp hr _ _ _, _, x, rfl, s.holds, s.le, s.env t _ ht⟩
theorem okX_ret2 {t u : Nat} {T U : Ty} (x : X) (hr : fn.results = #[.tmp t, .tmp u]) (ht : Γ.look t = some T) (hu : Γ.look u = some U) (hO : (Out x).1 = Ty.tup [T, U]) (hL : L = (Out x).2 ++ Lt) : OkX ⟨P, gl, n, L0, w0⟩ (bodyPost P fn (RetP gl L0 w0 Lt Out)) .ret Γ L := fun a w s => by
 subst hL
 refine ⟨s.defers, _, results_tmp2 hr _ _ _, _, x, rfl, s.holds, s.le, ?_⟩
 rw [hO]
 refine ⟨_, rfl, rfl, fun j V hV => ?_⟩
 match j with
 | 0 => cases hV; exact ⟨_, rfl, s.env t _ ht⟩
 | 1 => cases hV; exact ⟨_, rfl, s.env u _ hu⟩
 | j + 2 => simp at hV
theorem okX_ret0 (x : X) (hr : fn.results = #[]) (hO : (Out x).1 = Ty.tup []) (hL : L = (Out x).2 ++ Lt) : OkX ⟨P, gl, n, L0, w0⟩ (bodyPost P fn (RetP gl L0 w0 Lt Out)) .ret Γ L := fun a w s => by
 subst hL
 refine ⟨s.defers, _, results_none hr _ _ _, _, x, rfl, s.holds, s.le, ?_⟩
 rw [hO]
 exact ⟨#[], rfl, rfl, fun j V hV => by simp at hV⟩
theorem okX_end0 (x : X) (hr : fn.results = #[]) (hO : (Out x).1 = Ty.tup []) (hL : L = (Out x).2 ++ Lt) : OkX ⟨P, gl, n, L0, w0⟩ (bodyPost P fn (RetP gl L0 w0 Lt Out)) .normal Γ L := fun a w s => okX_ret0 x hr hO hL a w s
end ret
end
end Go.Proofs.YtocfnpnnbmicmaaDoor.Tc
end
section
set_option linter.unusedVariables false
set_option linter.unusedSimpArgs false
namespace Go.Proofs.YtocfnpnnbmicmaaDoor.Tc
open Go Go.RowKit
theorem wpAny_more {P : Program} {md : Region.Mode} {ops : Array Oper} {Q : Post} : ∀ (f : Nat) (listed : Array Bool) (a : Act) (w : World), wpAny P md ops Q f listed a w → wpAny P md ops Q (f + 1) listed a w
 | 0, listed, a, w, h => ⟨fun _ => h.2, fun i hi => by rw [h.1] at hi; cases hi⟩
 | f + 1, listed, a, w, h => ⟨h.1, fun i hi => wpOp_mono (fun a' w' h' => wpAny_more f _ a' w' h') (h.2 i hi)⟩
theorem wpAny_le {P : Program} {md : Region.Mode} {ops : Array Oper} {Q : Post} {f g : Nat} (hfg : f ≤ g) {listed : Array Bool} {a : Act} {w : World} (h : wpAny P md ops Q f listed a w) : wpAny P md ops Q g listed a w := by
 obtain ⟨d, rfl⟩ := Nat.exists_eq_add_of_le hfg
 induction d with
 | zero => exact h
 | succ d ih => exact wpAny_more _ _ _ _ (ih (by omega))
def cnt : Nat → Array Bool → Nat
 | 0, _ => 0
 | m + 1, l => cnt m l + (if l.getD m true then 0 else 1)
theorem cnt_other (l : Array Bool) (i : Nat) : ∀ (m : Nat), m ≤ i → cnt m (l.setIfInBounds i true) = cnt m l
 | 0, _ => rfl
 | m + 1, h => by simp only [cnt]; rw [cnt_other l i m (by omega), getD_set_ne true (by omega)]
theorem cnt_set (l : Array Bool) (i : Nat) (hi : l.getD i true = false) : ∀ (m : Nat), i < m → cnt m (l.setIfInBounds i true) + 1 = cnt m l
 | 0, h => by omega
 | m + 1, h => by
  simp only [cnt]
  by_cases him : i = m
  ·subst him
   have hlt : i < l.size := by
    rcases Nat.lt_or_ge i l.size with h' | h'
    ·exact h'
    ·simp [Array.getElem?_eq_none h'] at hi
   rw [cnt_other l i i (Nat.le_refl _), hi]
   simp [hlt]
  ·rw [← cnt_set l i hi m (by omega), getD_set_ne true him]; omega
theorem cnt_zero (l : Array Bool) : ∀ (m : Nat), cnt m l = 0 → ∀ i, i < m → l.getD i true = true
 | 0, _, i, h => by omega
 | m + 1, h, i, hi => by
  simp only [cnt] at h
  by_cases him : i = m
  ·subst him
   cases hl : l.getD i true with
   | true => rfl
   | false => rw [hl] at h; simp at h
  ·exact cnt_zero l m (by omega) i (by omega)
abbrev Hs := List (Option (Nat × Ty))
def ctxOf (hs : Hs) (Γ : Cx) : List Edge → Cx
 | [] => Γ
 | e :: r => match Region.binds .any e, hs[e.on]? with
  | true, some (some p) => p :: ctxOf hs Γ r
  | _, _ => ctxOf hs Γ r
def zipH (Γ : Cx) : Hs → Cx
 | [] => Γ
 | some p :: r => p :: zipH Γ r
 | none :: r => zipH Γ r
structure DrawOp (κ : Kx) (l : List Oper) (hs : Hs) (Γ : Cx) (L : List Item) (o : Oper) (T : Ty) : Prop where
 ok : (o.guard = none ∧ Does κ o (ctxOf hs Γ o.after.toList) L T) ∨
  ∃ j want dj b, o.guard = some (j, want) ∧ (l[j]?).bind (·.dst) = some dj ∧ (ctxOf hs Γ o.after.toList).look dj = some (Ty.val b) ∧ ((b = .bool want ∧ Does κ o (ctxOf hs Γ o.after.toList) L T) ∨ ((b = .bool (!want) ∨ b = undef) ∧ T = Ty.val undef))
def ancs : List Oper → List Nat → List Nat
 | [], acc => acc
 | o :: r, acc => ancs r (acc ++ [o.after.toList.foldl (fun s e => if Region.binds .any e then s ||| 2 ^ e.on ||| (acc[e.on]?).getD 0 else s) 0])
structure Two where
 late : List Item
 early : List Item
 qs : List Nat
def Stays (Z : Two) (rem : List Nat) (L : List Item) : Prop := (∀ it, it ∈ Z.late → it ∈ L) ∧ ((Z.qs.all (fun q => rem.contains q)) = false ∨ ∀ it, it ∈ Z.early → it ∈ L)
def isEarly (l : List Oper) (Z : Two) (i : Nat) : Bool := Z.qs.all fun q => (((ancs l [])[q]?).getD 0).testBit i
def DrawOps (κ : Kx) (l : List Oper) (hs : Hs) (Γ : Cx) (Z : Two) : Nat → List Oper → Hs → Prop
 | k, o :: os, some p :: r => (DrawOp κ l hs Γ Z.late o p.2 ∨ (isEarly l Z k = true ∧ DrawOp κ l hs Γ Z.early o p.2)) ∧ DrawOps κ l hs Γ Z (k + 1) os r
 | k, _ :: os, none :: r => DrawOps κ l hs Γ Z (k + 1) os r
 | _, _, _ => True
def nxt (as : List Nat) (rem : List Nat) : List Nat := rem.filter fun p => rem.all fun q => q == p || !((as[p]?).getD 0).testBit q
def AllP {α : Type} (P : α → Prop) : List α → Prop
 | [] => True
 | x :: r => P x ∧ AllP P r
theorem AllP.at {α : Type} {P : α → Prop} : ∀ {l : List α}, AllP P l → ∀ x, x ∈ l → P x
 | _ :: _, h, x, hx => by
  rcases List.mem_cons.1 hx with rfl | q
  ·exact h.1
  ·exact AllP.at h.2 x q
def putD (dst : Option Nat) (T : Ty) (Γ : Cx) : Cx := match dst with | some d => (d, T) :: Γ | none => Γ
section
variable {κ : Kx} {Q : Post} {Γ : Cx} {L : List Item} {l : List Oper} {hs : Hs}
def GOk (l : List Oper) (Γ : Cx) (o : Oper) : Prop := o.guard = none ∨ ∃ j want dj, o.guard = some (j, want) ∧ (l[j]?).bind (·.dst) = some dj ∧ Γ.look dj = some (tB want)
def Chain (κ : Kx) (l : List Oper) (hs : Hs) (Γ : Cx) (Ls : Two) (F : Cx → List Item → Prop) : Nat → List Nat → Cx → List Item → Prop
 | 0, _, Γc, L => F Γc L
 | f + 1, rem, Γc, L => ∃ ns, nxt (ancs l []) rem = ns ∧ AllP (fun p => ∃ o, l[p]? = some o ∧ GOk l (ctxOf hs (Γc ++ Γ) o.after.toList) o ∧
   DoesO κ o (ctxOf hs (Γc ++ Γ) o.after.toList) L (fun T L' => Stays Ls (rem.erase p) L' ∧ Chain κ l hs Γ Ls F f (rem.erase p) (putD o.dst T Γc) L')) ns
theorem draw_plain {o : Oper} {T : Ty} (hg : o.guard = none) (h : Does κ o (ctxOf hs Γ o.after.toList) L T) : DrawOp κ l hs Γ L o T := ⟨.inl ⟨hg, h⟩⟩
theorem draw_on {o : Oper} {T : Ty} {j : Nat} {want : Bool} (dj : Nat) (b : Bool) (hg : o.guard = some (j, want)) (hj : (l[j]?).bind (·.dst) = some dj) (hl : (ctxOf hs Γ o.after.toList).look dj = some (tB b)) (hw : b = want)
  (h : Does κ o (ctxOf hs Γ o.after.toList) L T) : DrawOp κ l hs Γ L o T := ⟨.inr ⟨j, want, dj, _, hg, hj, hl, .inl ⟨by rw [hw], h⟩⟩⟩
theorem draw_off {o : Oper} {j : Nat} {want : Bool} (dj : Nat) (b : Bool) (hg : o.guard = some (j, want)) (hj : (l[j]?).bind (·.dst) = some dj) (hl : (ctxOf hs Γ o.after.toList).look dj = some (tB b)) (hw : b = !want) :
  DrawOp κ l hs Γ L o (Ty.val undef) := ⟨.inr ⟨j, want, dj, _, hg, hj, hl, .inr ⟨.inl (by rw [hw]), rfl⟩⟩⟩
theorem draw_offU {o : Oper} {j : Nat} {want : Bool} (dj : Nat) (hg : o.guard = some (j, want)) (hj : (l[j]?).bind (·.dst) = some dj) (hl : (ctxOf hs Γ o.after.toList).look dj = some (Ty.val undef)) :
  DrawOp κ l hs Γ L o (Ty.val undef) := ⟨.inr ⟨j, want, dj, _, hg, hj, hl, .inr ⟨.inr rfl, rfl⟩⟩⟩
theorem DrawOps.at {Z : Two} : ∀ {b : Nat} {os : List Oper} {us : Hs}, DrawOps κ l hs Γ Z b os us → ∀ (k : Nat) {o : Oper} {p : Nat × Ty}, os[k]? = some o → us[k]? = some (some p) → DrawOp κ l hs Γ Z.late o p.2 ∨ (isEarly l Z (b + k) = true ∧ DrawOp κ l hs Γ Z.early o p.2)
 | _, [], _, _, k, o, p, ho, _ => by simp at ho
 | _, _ :: _, [], _, k, o, p, _, hp => by simp at hp
 | b, x :: os, some u :: us, h, 0, o, p, ho, hp => by simp at ho hp; subst ho hp; exact h.1
 | b, x :: os, some u :: us, h, k + 1, o, p, ho, hp => by rw [show b + (k + 1) = b + 1 + k by omega]; exact DrawOps.at h.2 k (by simpa using ho) (by simpa using hp)
 | b, x :: os, none :: us, h, 0, o, p, ho, hp => by simp at hp
 | b, x :: os, none :: us, h, k + 1, o, p, ho, hp => by rw [show b + (k + 1) = b + 1 + k by omega]; exact DrawOps.at (us := us) (os := os) h k (by simpa using ho) (by simpa using hp)
theorem zip_look : ∀ {us : Hs} {t : Nat} {T : Ty}, (zipH Γ us).look t = some T → (∃ k : Nat, us[k]? = some (some (t, T))) ∨ Γ.look t = some T
 | [], _, _, h => .inr h
 | some (d, U) :: us, t, T, h => by
  simp only [zipH, Cx.look] at h
  split at h
  ·rename_i hk; cases h; subst hk; exact .inl ⟨0, rfl⟩
  ·rcases zip_look h with ⟨k, h1⟩ | h
   ·exact .inl ⟨k + 1, by simpa using h1⟩
   ·exact .inr h
 | none :: us, t, T, h => by
  rcases zip_look (us := us) h with ⟨k, h1⟩ | h
  ·exact .inl ⟨k + 1, by simpa using h1⟩
  ·exact .inr h
theorem ctx_look : ∀ {es : List Edge} {t : Nat} {T : Ty}, (ctxOf hs Γ es).look t = some T → (∃ e, e ∈ es ∧ Region.binds .any e = true ∧ hs[e.on]? = some (some (t, T))) ∨ Γ.look t = some T
 | [], _, _, h => .inr h
 | e :: r, t, T, h => by
  simp only [ctxOf] at h
  split at h
  ·rename_i p hb h1
   obtain ⟨d, U⟩ := p
   simp only [Cx.look] at h
   split at h
   ·rename_i hk; cases h; subst hk; exact .inl ⟨e, by simp, hb, h1⟩
   ·rcases ctx_look h with ⟨e', h3, h4⟩ | h
    ·exact .inl ⟨e', by simp [h3], h4⟩
    ·exact .inr h
  ·rcases ctx_look h with ⟨e', h3, h4⟩ | h
   ·exact .inl ⟨e', by simp [h3], h4⟩
   ·exact .inr h
theorem app_look : ∀ {Γc Γ : Cx} {t : Nat} {T : Ty}, (Γc ++ Γ).look t = some T → Γc.look t = some T ∨ Γ.look t = some T
 | [], _, _, _, h => .inr h
 | (k, U) :: r, Γ, t, T, h => by
  simp only [List.cons_append, Cx.look] at h ⊢
  split at h
  ·rename_i hk; rw [if_pos hk]; exact .inl h
  ·rename_i hk; rw [if_neg hk]; exact app_look h
theorem look_mem : ∀ {Γ : Cx} {t : Nat} {T : Ty}, Γ.look t = some T → ∃ p, p ∈ Γ ∧ p.1 = t
 | (k, U) :: r, t, T, h => by
  simp only [Cx.look] at h
  split at h
  ·rename_i hk; exact ⟨(k, U), by simp, hk⟩
  ·obtain ⟨q, h1, h2⟩ := look_mem h
   exact ⟨q, by simp [h1], h2⟩
def Closed (l : List Oper) (listed : Array Bool) : Prop := ∀ j oj, l[j]? = some oj → listed.getD j false = true → ∀ e ∈ oj.after, Region.binds .any e = true → listed.getD e.on false = true
theorem anc_fold (acc : List Nat) (q : Nat) : ∀ (es : List Edge) (s : Nat), (es.foldl (fun s e => if Region.binds .any e then s ||| 2 ^ e.on ||| (acc[e.on]?).getD 0 else s) s).testBit q = true →
  s.testBit q = true ∨ ∃ e, e ∈ es ∧ Region.binds .any e = true ∧ (e.on = q ∨ ((acc[e.on]?).getD 0).testBit q = true)
 | [], s, h => .inl h
 | e :: es, s, h => by
  simp only [List.foldl_cons] at h
  rcases anc_fold acc q es _ h with h | ⟨e', h1, h2⟩
  ·split at h
   ·rename_i hb
    simp only [Nat.testBit_or, Bool.or_eq_true, Nat.testBit_two_pow, decide_eq_true_eq] at h
    rcases h with (h | h) | h
    ·exact .inl h
    ·exact .inr ⟨e, by simp, hb, .inl h⟩
    ·exact .inr ⟨e, by simp, hb, .inr h⟩
   ·exact .inl h
  ·exact .inr ⟨e', by simp [h1], h2⟩
theorem anc_ok {listed : Array Bool} (hc : Closed l listed) : ∀ (r : List Oper) (acc : List Nat), (∀ (k : Nat) (o : Oper), r[k]? = some o → l[acc.length + k]? = some o) →
  (∀ (k m : Nat), acc[k]? = some m → ∀ q, m.testBit q = true → ∀ (o : Oper), l[k]? = some o → (∀ e ∈ o.after, Region.binds .any e = true → listed.getD e.on false = true) → listed.getD q false = true) →
  ∀ (k m : Nat), (ancs r acc)[k]? = some m → ∀ q, m.testBit q = true → ∀ (o : Oper), l[k]? = some o → (∀ e ∈ o.after, Region.binds .any e = true → listed.getD e.on false = true) → listed.getD q false = true
 | [], acc, _, h => h
 | x :: r, acc, hl, h => by
  refine anc_ok hc r _ (fun k o hk => by have := hl (k + 1) o (by simpa using hk); simpa [Nat.add_assoc, Nat.add_comm 1 k] using this) ?_
  intro k m hm q hq o ho hpre
  rw [List.getElem?_append] at hm
  split at hm
  ·exact h k m hm q hq o ho hpre
  ·rename_i hk
   have hk0 : k = acc.length := by
    have := (List.getElem?_eq_some_iff.1 hm).1
    simp at this; omega
   subst hk0
   simp only [Nat.sub_self, List.getElem?_cons_zero, Option.some.injEq] at hm
   subst hm
   have hox : o = x := by have := hl 0 x rfl; simp only [Nat.add_zero] at this; rw [this] at ho; exact (Option.some.inj ho).symm
   subst hox
   rcases anc_fold acc q _ _ hq with h0 | ⟨e, h1, h2, h3⟩
   ·simp at h0
   ·have hle := hpre e (by simpa using h1) h2
    rcases h3 with h3 | h3
    ·rw [← h3]; exact hle
    ·cases ha : acc[e.on]? with
     | none => rw [ha] at h3; simp at h3
     | some m' =>
      rw [ha] at h3
      have hlt : e.on < acc.length := (List.getElem?_eq_some_iff.1 ha).1
      have hlo : ∃ oe, l[e.on]? = some oe := by
       have h4 : acc.length < l.length := (List.getElem?_eq_some_iff.1 ho).1
       exact ⟨_, List.getElem?_eq_getElem (by omega)⟩
      obtain ⟨oe, hoe⟩ := hlo
      exact h e.on m' ha q h3 oe hoe (fun e' he' hb' => hc e.on oe hoe hle e' he' hb')
structure DSat (κ : Kx) (l : List Oper) (m : Nat) (hs : Hs) (Γ : Cx) (Ls : Two) (F : Cx → List Item → Prop) (listed : Array Bool) (rem : List Nat) (Γc : Cx) (L : List Item) (a : Act) (w : World) : Prop where
 defers : a.defers = []
 size : a.tmps.size = κ.n
 holds : Holds κ.gl L w
 le : Le (foot κ.L0) κ.w0 (foot L) w
 env : EnvOk (Γc ++ Γ) L a.tmps w
 inv : HeadInv .any l.toArray m listed
 done : ∀ (k d : Nat) (T : Ty), hs[k]? = some (some (d, T)) → listed.getD k false = true → T.holds (foot L) w (a.tmps.getD d undef)
 rems : ∀ p, p ∈ rem → listed.getD p true = false
 remc : ∀ k, hs[k]? = some none → listed.getD k true = false → k ∈ rem
 nodup : rem.Nodup
 cdst : ∀ p, p ∈ Γc → ∃ k o, l[k]? = some o ∧ k < m ∧ o.dst = some p.1 ∧ listed.getD k false = true
 sub : Stays Ls rem L
 chain : Chain κ l hs Γ Ls F rem.length rem Γc L
 remlt : ∀ p, p ∈ rem → p < m
 gam : EnvOk Γ L a.tmps w
 remnone : ∀ p, p ∈ rem → hs[p]? = some none
def nodupB : List Nat → Bool
 | [] => true
 | x :: r => !r.contains x && nodupB r
theorem nodup_of : ∀ {r : List Nat}, nodupB r = true → r.Nodup
 | [], _ => List.nodup_nil
 | x :: r, h => by
  simp only [nodupB, Bool.and_eq_true, Bool.not_eq_true'] at h
  exact List.nodup_cons.2 ⟨fun hx => (by rw [List.contains_iff_mem.2 hx] at h; exact absurd h.1 (by simp)), nodup_of h.2⟩
def dstOk : Hs → List Oper → Bool
 | some p :: r, o :: os => (o.dst == some p.1) && dstOk r os
 | none :: r, _ :: os => dstOk r os
 | [], _ => true
 | _, [] => false
theorem dst_ok : ∀ {us : Hs} {os : List Oper}, dstOk us os = true → ∀ (k : Nat) {o : Oper} {p : Nat × Ty}, os[k]? = some o → us[k]? = some (some p) → o.dst = some p.1
 | [], _, _, k, o, p, _, hp => by simp at hp
 | some u :: us, x :: os, h, 0, o, p, ho, hp => by simp at ho hp; subst ho hp; simp [dstOk] at h; exact h.1
 | some u :: us, x :: os, h, k + 1, o, p, ho, hp => by simp [dstOk] at h; exact dst_ok h.2 k (by simpa using ho) (by simpa using hp)
 | none :: us, x :: os, h, 0, o, p, ho, hp => by simp at hp
 | none :: us, x :: os, h, k + 1, o, p, ho, hp => by simp [dstOk] at h; exact dst_ok h k (by simpa using ho) (by simpa using hp)
 | some u :: us, [], h, k, o, p, ho, hp => by simp at ho
 | none :: us, [], h, k, o, p, ho, hp => by simp at ho
def noneAt : Hs → Nat → List Nat
 | [], _ => []
 | some _ :: r, k => noneAt r (k + 1)
 | none :: r, k => k :: noneAt r (k + 1)
theorem none_at : ∀ {us : Hs} {b k : Nat}, us[k]? = some none → b + k ∈ noneAt us b
 | some _ :: us, b, 0, h => by simp at h
 | some _ :: us, b, k + 1, h => by
  have := none_at (us := us) (b := b + 1) (k := k) (by simpa using h)
  rw [show b + (k + 1) = b + 1 + k by omega]; exact this
 | none :: us, b, 0, h => by simp [noneAt]
 | none :: us, b, k + 1, h => by
  have := none_at (us := us) (b := b + 1) (k := k) (by simpa using h)
  rw [show b + (k + 1) = b + 1 + k by omega]
  exact List.mem_cons_of_mem _ this
theorem okC_draw {id : Nat} (m : Nat) (hs : Hs) (Ls : Two) (cs : List Nat) (hm : κ.P.follows .mixedOrders = true) (hml : hs.length = m) (hd : dstOk hs l = true) (hnd : nodupB ((l.take m).filterMap (·.dst)) = true) (hΓ : Γ.all (fun p => !((l.take m).filterMap (·.dst)).contains p.1) = true) (hn : ((l.take m).filterMap (·.dst)).all (fun d => Nat.blt d κ.n) = true)
    (hcs : noneAt hs 0 = cs) (hcn : nodupB cs = true) (hcm : cs.all (fun p => Nat.blt p m) = true) (hLs : ∀ it, it ∈ Ls.late → it ∈ L) (hLe : ∀ it, it ∈ Ls.early → it ∈ L) (hqs : Ls.qs.all (fun q => cs.contains q) = true)
    (hfwd : (List.range m).all (fun i => ((l[i]?).map (fun o => o.after.toList.all (fun e => !Region.binds .any e || Nat.blt e.on i))).getD true) = true)
    (hwait : m = l.length ∨ (Region.sinkB .any l.toArray m = true ∧ Region.chainB .any l.toArray m = true)) (hle : Nat.ble m l.length = true)
    (htail : Region.seqB .any l.toArray (l.length - m) m (Array.replicate m true ++ Array.replicate (l.length - m) false) = true)
    (hops : DrawOps κ l hs Γ Ls 0 (l.take m) hs)
    (h : Chain κ l hs Γ Ls (fun Γc L' => OkL κ l.toArray Q (l.drop m) (zipH (Γc ++ Γ) hs) L') cs.length cs [] L) : OkC κ (.region id l.toArray true) Q Γ L := fun a w s => by
  have hle' := Nat.le_of_ble_eq_true hle
  have hnod := nodup_of hnd
  have hdlt : ∀ k o d, l[k]? = some o → k < m → o.dst = some d → d ∈ (l.take m).filterMap (·.dst) := fun k o d ho hk hd' => List.mem_filterMap.2 ⟨o, List.mem_of_getElem? (by rw [List.getElem?_take, if_pos hk]; exact ho), hd'⟩
  have hinj : ∀ k k' o o' d, l[k]? = some o → k < m → o.dst = some d → l[k']? = some o' → k' < m → o'.dst = some d → k = k' := by
    have gen : ∀ (os : List Oper), (os.filterMap (·.dst)).Nodup → ∀ (k k' : Nat) (o o' : Oper) (d : Nat), os[k]? = some o → o.dst = some d → os[k']? = some o' → o'.dst = some d → k = k' := by
      intro os
      induction os with
      | nil => intro _ k k' o o' d h1; simp at h1
      | cons x os ih =>
        intro hN k k' o o' d h1 h2 h3 h4
        have hN' : (os.filterMap (·.dst)).Nodup := by
          cases hx : x.dst with
          | none => simpa [List.filterMap_cons, hx] using hN
          | some dx => simp only [List.filterMap_cons, hx] at hN; exact (List.nodup_cons.1 hN).2
        cases k with
        | zero =>
          cases k' with
          | zero => rfl
          | succ k' =>
            exfalso
            simp at h1; subst h1
            simp only [List.filterMap_cons, h2] at hN
            exact (List.nodup_cons.1 hN).1 (List.mem_filterMap.2 ⟨o', List.mem_of_getElem? (by simpa using h3), h4⟩)
        | succ k =>
          cases k' with
          | zero =>
            exfalso
            simp at h3; subst h3
            simp only [List.filterMap_cons, h4] at hN
            exact (List.nodup_cons.1 hN).1 (List.mem_filterMap.2 ⟨o, List.mem_of_getElem? (by simpa using h1), h2⟩)
          | succ k' => rw [ih hN' k k' o o' d (by simpa using h1) h2 (by simpa using h3) h4]
    intro k k' o o' d h1 hk h2 h3 hk' h4
    exact gen (l.take m) hnod k k' o o' d (by rw [List.getElem?_take, if_pos hk]; exact h1) h2 (by rw [List.getElem?_take, if_pos hk']; exact h3) h4
  have key : ∀ (c : Nat) (listed : Array Bool) (rem : List Nat) (Γc : Cx) (L : List Item) (a : Act) (w : World), cnt m listed = c → DSat κ l m hs Γ Ls (fun Γc L' => OkL κ l.toArray Q (l.drop m) (zipH (Γc ++ Γ) hs) L') listed rem Γc L a w → wpAny κ.P .any l.toArray Q (c + (l.length - m)) listed a w := by
    intro c
    induction c with
    | zero =>
      intro listed rem Γc L a w hc st
      have hall := cnt_zero listed m hc
      have hsz : listed.size = l.length := by simpa using st.inv.size
      have hlisted : listed = Array.replicate m true ++ Array.replicate (l.length - m) false := by
        apply Array.ext
        · simp [hsz]; omega
        · intro i h1 h2
          by_cases him : i < m
          · have h3 := hall i him
            simp [h1] at h3
            rw [h3, Array.getElem_append_left (by simpa using him)]
            simp
          · have h3 := st.inv.tail i (by omega) (by simp; omega)
            simp [h1] at h3
            rw [h3, Array.getElem_append_right (by simpa using him)]
            simp
      have hrem : rem = [] := by
        cases rem with
        | nil => rfl
        | cons p r =>
          exfalso
          have h1 := st.rems p (by simp)
          have hpm : p < m := by
            rcases Nat.lt_or_ge p m with q | q
            · exact q
            · exact absurd (st.remlt p (by simp)) (by omega)
          rw [hall p hpm] at h1; cases h1
      subst hrem
      have hF : OkL κ l.toArray Q (l.drop m) (zipH (Γc ++ Γ) hs) L := st.chain
      rw [Nat.zero_add]
      have hs' : Sat κ (zipH (Γc ++ Γ) hs) L a w := ⟨st.defers, st.size, st.holds, st.le, fun t T ht => by
        rcases zip_look ht with ⟨k, h1⟩ | ht
        · refine st.done k t T h1 ?_
          have hk : k < m := by rw [← hml]; exact (List.getElem?_eq_some_iff.1 h1).1
          have h3 := hall k hk
          have hks : k < listed.size := by rw [hsz]; omega
          simp [hks] at h3 ⊢; exact h3
        · exact st.env t T ht⟩
      have := wpAny_of_seq (P := κ.P) (md := .any) (Q' := Q) (ops := l.toArray) (l.drop m) m listed a w (fun j => by simp [List.getElem?_drop]) (by rw [hlisted]; simpa using htail) (hF a w hs')
      simpa using this
    | succ c ih =>
      intro listed rem Γc L a w hc st
      rw [show c + 1 + (l.length - m) = (c + (l.length - m)) + 1 by omega]
      have hsz : listed.size = l.length := by simpa using st.inv.size
      have hex : ¬ ∀ i, i < m → listed.getD i true = true := by
        intro q
        have : ∀ k, k ≤ m → cnt k listed = 0 := by
          intro k
          induction k with
          | zero => intro _; rfl
          | succ k ihk => intro hk; simp only [cnt, ihk (by omega), q k (by omega)]; rfl
        have := this m (Nat.le_refl _); omega
      refine ⟨fun hnil => ?_, fun i hi => ?_⟩
      · exfalso
        refine hex fun i => ?_
        induction i using Nat.strongRecOn with
        | _ i ihi =>
          intro him
          cases hl : listed.getD i true with
          | true => rfl
          | false =>
            exfalso
            have hoi : l[i]? = some (l[i]'(by omega)) := List.getElem?_eq_getElem (by omega)
            have : i ∈ Region.ready .any l.toArray listed := by
              refine mem_ready.2 ⟨hl, _, (by rw [List.getElem?_toArray]; exact hoi), fun e he hb => ?_⟩
              have h1 := List.all_eq_true.1 hfwd i (List.mem_range.2 him)
              rw [hoi] at h1
              simp only [Option.map_some, Option.getD_some] at h1
              have h2 := List.all_eq_true.1 h1 e (by simpa using he)
              simp only [hb, Bool.not_true, Bool.false_or] at h2
              have h3 : e.on < i := Nat.lt_of_succ_le (Nat.le_of_ble_eq_true h2)
              have h4 := ihi e.on h3 (by omega)
              have h5 : e.on < listed.size := by omega
              simp [h5] at h4 ⊢; exact h4
            rw [hnil] at this; cases this
      · have him : i < m := by
          rcases Nat.lt_or_ge i m with q | q
          · exact q
          · exfalso
            obtain ⟨_, oi, hoi, _⟩ := mem_ready.1 hi
            have hil : i < l.length := by have := (Array.getElem?_eq_some_iff.1 hoi).1; simpa using this
            rcases hwait with hw | ⟨hs1, hc1⟩
            · omega
            · have hinv := st.inv
              refine hex fun i0 hi0 => ?_
              cases hu0 : listed.getD i0 true with
              | true => rfl
              | false => exact absurd hi (tail_waits hs1 hc1 (by simp; omega) hinv _ i0 rfl hi0 hu0 i q)
        obtain ⟨hun, oi, hoi, hpre⟩ := mem_ready.1 hi
        have hoi' : l[i]? = some oi := by simpa using hoi
        have hid : (l.take m)[i]? = some oi := by rw [List.getElem?_take, if_pos him]; exact hoi'
        have hall : ∀ e, e ∈ oi.after.toList → Region.binds .any e = true → listed.getD e.on false = true := fun e he hb => hpre e (by simpa using he) hb
        have hctx : ∀ Δ : Cx, EnvOk Δ L a.tmps w → EnvOk (ctxOf hs Δ oi.after.toList) L a.tmps w := fun Δ hΔ t T ht => by
          rcases ctx_look ht with ⟨e, he, hb, h1⟩ | ht
          · exact st.done e.on t T h1 (hall e he hb)
          · exact hΔ t T ht
        have hset : ∀ k, i ≠ k → (listed.setIfInBounds i true).getD k false = true → listed.getD k false = true := fun k hk h => by rw [getD_set_ne false hk] at h; exact h
        have hsetT : ∀ k, listed.getD k false = true → (listed.setIfInBounds i true).getD k false = true := fun k h => getD_set_true h
        -- what was told stays told behind a write to this operation's slot
        have hkeep : ∀ (v : Value) (t : Nat), (∀ d, oi.dst = some d → d ≠ t) → (a.put oi.dst v).tmps.getD t undef = a.tmps.getD t undef := fun v t ht => by
          cases hd' : oi.dst with
          | none => rfl
          | some d =>
            simp only [Act.put]
            have hdn : d < κ.n := Nat.lt_of_succ_le (Nat.le_of_ble_eq_true (List.all_eq_true.1 hn _ (hdlt i oi d hoi' him hd')))
            rw [getD_set _ _ _ _ (by rw [st.size]; exact hdn), if_neg (ht d hd')]
        have hΓne : ∀ t T, Γ.look t = some T → ∀ d, oi.dst = some d → d ≠ t := fun t T ht d hd' hq => by
          obtain ⟨p, hp1, hp2⟩ := look_mem ht
          have h6 := List.all_eq_true.1 hΓ p hp1
          rw [hp2, ← hq] at h6
          rw [List.contains_iff_mem.2 (hdlt i oi d hoi' him hd')] at h6
          cases h6
        have hΓcne : ∀ t T, Γc.look t = some T → ∀ d, oi.dst = some d → d ≠ t := fun t T ht d hd' hq => by
          obtain ⟨p, hp1, hp2⟩ := look_mem ht
          obtain ⟨k, o, h1, h2, h3, h4⟩ := st.cdst p hp1
          have := hinj i k oi o d hoi' him hd' h1 h2 (by rw [h3, hp2, hq])
          subst this
          have : i < listed.size := by rw [hsz]; omega
          simp [this] at hun h4
          rw [hun] at h4; cases h4
        have hdone : ∀ (v : Value) (k d : Nat) (T : Ty), hs[k]? = some (some (d, T)) → i ≠ k → (a.put oi.dst v).tmps.getD d undef = a.tmps.getD d undef := fun v k d T h1 hik => hkeep v d fun d' hd' hq => by
          have hkm : k < m := by rw [← hml]; exact (List.getElem?_eq_some_iff.1 h1).1
          have hok : l[k]? = some (l[k]'(by omega)) := List.getElem?_eq_getElem (by omega)
          exact hik (hinj i k oi _ d' hoi' him hd' hok hkm (by rw [hq]; exact dst_ok hd k hok h1))
        have hput2 : (∀ v, (a.put oi.dst v).defers = [] ∧ (a.put oi.dst v).tmps.size = κ.n) := fun v => by
          cases oi.dst <;> simp [Act.put, st.defers, st.size]
        have hcnt := cnt_set listed i hun m him
        have hhs : ∃ z, hs[i]? = some z := ⟨_, List.getElem?_eq_getElem (by omega)⟩
        obtain ⟨z, hz⟩ := hhs
        unfold wpOp
        rw [hoi]
        dsimp only
        cases z with
        | some p =>
          obtain ⟨d, T⟩ := p
          have hdo : ∃ Lx, (∀ it, it ∈ Lx → it ∈ L) ∧ DrawOp κ l hs Γ Lx oi T := by
            rcases hops.at i hid hz with h1 | ⟨h1, h2⟩
            · exact ⟨_, st.sub.1, h1⟩
            · refine ⟨_, ?_, h2⟩
              rcases st.sub.2 with h3 | h3
              · exfalso
                obtain ⟨q, hq, hqr⟩ := List.all_eq_false.1 h3
                have hq0 : q ∈ cs := List.contains_iff_mem.1 (List.all_eq_true.1 hqs q hq)
                have hqm : q < m := Nat.lt_of_succ_le (Nat.le_of_ble_eq_true (List.all_eq_true.1 hcm q hq0))
                have hqn : hs[q]? = some none := by
                  have gen : ∀ (us : Hs) (b : Nat), q ∈ noneAt us b → ∃ k, q = b + k ∧ us[k]? = some none := by
                    intro us
                    induction us with
                    | nil => intro b hb; cases hb
                    | cons x us ih =>
                      intro b hb
                      cases x with
                      | some _ => obtain ⟨k, h1, h2⟩ := ih (b + 1) hb; exact ⟨k + 1, by omega, by simpa using h2⟩
                      | none =>
                        rcases List.mem_cons.1 hb with q | q
                        · exact ⟨0, by omega, rfl⟩
                        · obtain ⟨k, h1, h2⟩ := ih (b + 1) q; exact ⟨k + 1, by omega, by simpa using h2⟩
                  obtain ⟨k, h4, h5⟩ := gen hs 0 (by rw [hcs]; exact hq0)
                  rw [show q = k by omega]; exact h5
                have hql : listed.getD q true = true := by
                  cases hl : listed.getD q true with
                  | true => rfl
                  | false => exact absurd (List.contains_iff_mem.2 (st.remc q hqn hl)) hqr
                have hcl : Closed l listed := fun j oj hj hlj e he hb => st.inv.closed j oj (by simpa using hj) hlj e he hb
                have hqs' : q < listed.size := by rw [hsz]; omega
                have hql' : listed.getD q false = true := by simp [hqs'] at hql ⊢; exact hql
                have hoq : l[q]? = some (l[q]'(by omega)) := List.getElem?_eq_getElem (by omega)
                have ht := List.all_eq_true.1 h1 q hq
                rw [Nat.zero_add] at ht
                cases ha : (ancs l [])[q]? with
                | none => rw [ha] at ht; simp at ht
                | some mk =>
                  rw [ha] at ht
                  have h9 := anc_ok hcl l [] (fun k o hk => by simpa using hk) (fun k m' hk => by simp at hk) q mk ha i ht _ hoq (fun e he hb => hcl q _ hoq hql' e he hb)
                  have : i < listed.size := by rw [hsz]; omega
                  simp [this] at h9 hun
                  rw [hun] at h9; cases h9
              · exact h3
          obtain ⟨Lx, hLx, hdo⟩ := hdo
          have hdd : oi.dst = some d := dst_ok hd i hoi' hz
          have hdn : d < κ.n := Nat.lt_of_succ_le (Nat.le_of_ble_eq_true (List.all_eq_true.1 hn _ (hdlt i oi d hoi' him hdd)))
          have hnext : ∀ v w', Holds κ.gl L w' → Le (foot L) w (foot L) w' → T.holds (foot L) w' v → wpAny κ.P .any l.toArray Q (c + (l.length - m)) (listed.setIfInBounds i true) (a.put oi.dst v) w' := by
            intro v w' hh hl hv
            refine ih _ rem Γc L _ _ (by omega) ?_
            refine ⟨(hput2 v).1, (hput2 v).2, hh, st.le.trans hl, fun t U ht => ?_, st.inv.set hi him, fun k d' U h1 h3 => ?_, fun p hp => ?_, fun k h1 h2 => ?_, st.nodup, fun p hp => ?_, st.sub, st.chain, st.remlt, fun t U ht => by rw [hkeep v t (hΓne t U ht)]; exact U.mono (st.gam t U ht) hl, st.remnone⟩
            · have e1 : (a.put oi.dst v).tmps.getD t undef = a.tmps.getD t undef := hkeep v t (by
                rcases app_look ht with q | q
                · exact hΓcne t U q
                · exact hΓne t U q)
              rw [e1]
              exact U.mono (st.env t U ht) hl
            · by_cases hik : i = k
              · subst hik
                rw [hz] at h1; cases h1
                rw [hdd]
                simp only [Act.put]
                rw [getD_set _ _ _ _ (by rw [st.size]; exact hdn), if_pos rfl]
                exact hv
              · rw [hdone v k d' U h1 hik]
                exact U.mono (st.done k d' U h1 (hset k hik h3)) hl
            · by_cases hip : i = p
              · subst hip
                have := st.remnone i hp
                rw [hz] at this; cases this
              · rw [getD_set_ne true hip]; exact st.rems p hp
            · by_cases hik : i = k
              · subst hik; rw [hz] at h1; cases h1
              · rw [getD_set_ne true hik] at h2; exact st.remc k h1 h2
            · obtain ⟨k, o, h1, h2, h3, h4⟩ := st.cdst p hp
              exact ⟨k, o, h1, h2, h3, hsetT k h4⟩
          have hsk := hnext undef w st.holds (Le.refl _ _)
          have hcx := hctx Γ (fun t U ht => by
            -- Γ alone
            have := st.gam t U ht
            exact this)
          rcases hdo.ok with ⟨hg, hdoes⟩ | ⟨j, want, dj, b, hg, hj, hlk, hor⟩
          · rw [if_pos (by simp [Region.wanted, hg])]
            exact .inl (hdoes L a w hLx st.holds hcx _ _ hnext)
          · have he : a.tmps.getD dj undef = b := hcx dj _ hlk
            rcases hor with ⟨hw, hdoes⟩ | ⟨hw, hTu⟩
            · rw [if_pos]
              · exact .inl (hdoes L a w hLx st.holds hcx _ _ hnext)
              · subst hw
                have : a.tmps[dj]? = some (.bool want) := by
                  rw [Array.getD_eq_getD_getElem?] at he
                  cases hx : a.tmps[dj]? with
                  | none => rw [hx] at he; simp [undef] at he
                  | some u => rw [hx] at he; simp at he; rw [he]
                simp [Region.wanted, hg, yielded, hj, this]
            · rw [if_neg]
              · exact hsk (by have hTu' : T = Ty.val undef := hTu; rw [hTu']; rfl)
              · rcases hw with hw | hw
                · subst hw
                  have : a.tmps[dj]? = some (.bool (!want)) := by
                    rw [Array.getD_eq_getD_getElem?] at he
                    cases hx : a.tmps[dj]? with
                    | none => rw [hx] at he; simp [undef] at he
                    | some u => rw [hx] at he; simp at he; rw [he]
                  simp [Region.wanted, hg, yielded, hj, this]
                · subst hw
                  have : ∀ b, a.tmps[dj]? ≠ some (.bool b) := fun b hb => by
                    rw [Array.getD_eq_getD_getElem?, hb] at he
                    simp [undef] at he
                  have h7 : yielded l.toArray a.tmps j = none := by
                    simp only [yielded, List.getElem?_toArray, hj, Option.bind_some]
                    first
                      | done
                      | (split
                         · rename_i b hb; exact absurd hb (this b)
                         · rfl)
                  simp [Region.wanted, hg, h7]
        | none =>
          have hir : i ∈ rem := st.remc i hz hun
          have hlen : rem.length = (rem.erase i).length + 1 := by
            rw [List.length_erase_of_mem hir]
            have : 0 < rem.length := List.length_pos_of_mem hir
            omega
          have hch := st.chain
          rw [hlen] at hch
          obtain ⟨ns, hns, hall2⟩ := hch
          have hcl : Closed l listed := fun j oj hj hlj e he hb => st.inv.closed j oj (by simpa using hj) hlj e he hb
          have hin : i ∈ ns := by
            rw [← hns]
            refine List.mem_filter.2 ⟨hir, List.all_eq_true.2 fun q hq => ?_⟩
            simp only [Bool.or_eq_true, beq_iff_eq, Bool.not_eq_true']
            by_cases hqi : q = i
            · exact .inl hqi
            · right
              cases ht : (((ancs l [])[i]?).getD 0).testBit q with
              | false => rfl
              | true =>
                exfalso
                cases ha : (ancs l [])[i]? with
                | none => rw [ha] at ht; simp at ht
                | some mk =>
                  rw [ha] at ht
                  have h9 := anc_ok hcl l [] (fun k o hk => by simpa using hk) (fun k m' hk => by simp at hk) i mk ha q ht oi hoi' (fun e he hb => hpre e (by simpa using he) hb)
                  have h10 := st.rems q hq
                  have hqm := st.remlt q hq
                  have : q < listed.size := by rw [hsz]; omega
                  simp [this] at h9 h10
                  rw [h9] at h10; cases h10
          obtain ⟨o', ho', hg, hdo⟩ := hall2.at i hin
          have : o' = oi := by rw [hoi'] at ho'; exact (Option.some.inj ho').symm
          subst this
          have hwt : Region.wanted o' (yielded l.toArray a.tmps) = true := by
            rcases hg with hg | ⟨j, want, dj, hg, hj, hlk⟩
            · simp [Region.wanted, hg]
            · have he : a.tmps.getD dj undef = .bool want := hctx _ st.env dj _ hlk
              have : a.tmps[dj]? = some (.bool want) := by
                rw [Array.getD_eq_getD_getElem?] at he
                cases hx : a.tmps[dj]? with
                | none => rw [hx] at he; simp [undef] at he
                | some u => rw [hx] at he; simp at he; rw [he]
              simp [Region.wanted, hg, yielded, hj, this]
          rw [if_pos hwt]
          refine .inl (hdo a w ⟨st.defers, st.size, st.holds, st.le, hctx _ st.env⟩ _ _ ?_)
          intro v w' T L' hh hl hv hC
          refine ih _ (rem.erase i) (putD o'.dst T Γc) L' _ _ (by omega) ?_
          have hgkeep : ∀ t U, Γ.look t = some U → U.holds (foot L') w' ((a.put o'.dst v).tmps.getD t undef) := fun t U ht => by
            rw [hkeep v t (hΓne t U ht)]; exact U.mono (st.gam t U ht) hl
          refine ⟨(hput2 v).1, (hput2 v).2, hh, st.le.trans hl, fun t U ht => ?_, st.inv.set hi him, fun k d' U h1 h3 => ?_, fun p hp => ?_, fun k h1 h2 => ?_, st.nodup.erase i, fun p hp => ?_, hC.1, hC.2, fun p hp => st.remlt p (List.mem_of_mem_erase hp), hgkeep, fun p hp => st.remnone p (List.mem_of_mem_erase hp)⟩
          · cases hd' : o'.dst with
            | none =>
              have e0 : putD o'.dst T Γc = Γc := by rw [hd']; rfl
              rw [e0] at ht
              have e1 : (a.put none v).tmps.getD t undef = a.tmps.getD t undef := rfl
              rw [e1]; exact U.mono (st.env t U ht) hl
            | some d =>
              have hdn : d < κ.n := Nat.lt_of_succ_le (Nat.le_of_ble_eq_true (List.all_eq_true.1 hn _ (hdlt i o' d hoi' him hd')))
              have e0 : putD o'.dst T Γc = (d, T) :: Γc := by rw [hd']; rfl
              rw [e0] at ht
              simp only [List.cons_append, Cx.look] at ht
              simp only [Act.put]
              rw [getD_set _ _ _ _ (by rw [st.size]; exact hdn)]
              split at ht
              · rename_i hk; cases ht; rw [if_pos hk]; exact hv
              · rename_i hk; rw [if_neg hk]; exact U.mono (st.env t U ht) hl
          · have hik : i ≠ k := fun hq => by subst hq; rw [hz] at h1; cases h1
            rw [hdone v k d' U h1 hik]
            exact U.mono (st.done k d' U h1 (hset k hik h3)) hl
          · have hpi : i ≠ p := fun hq => by subst hq; exact (st.nodup.not_mem_erase) hp
            rw [getD_set_ne true hpi]; exact st.rems p (List.mem_of_mem_erase hp)
          · by_cases hik : i = k
            · subst hik
              have : i < listed.size := by rw [hsz]; omega
              simp [this] at h2
            · rw [getD_set_ne true hik] at h2
              exact (List.mem_erase_of_ne (fun q => hik q.symm)).2 (st.remc k h1 h2)
          · have hold : p ∈ Γc → ∃ k o, l[k]? = some o ∧ k < m ∧ o.dst = some p.1 ∧ (listed.setIfInBounds i true).getD k false = true := fun hp => by
              obtain ⟨k, o, h1, h2, h3, h4⟩ := st.cdst p hp
              exact ⟨k, o, h1, h2, h3, hsetT k h4⟩
            cases hd' : o'.dst with
            | none => rw [hd'] at hp; exact hold hp
            | some d =>
              rw [hd'] at hp
              rcases List.mem_cons.1 hp with q | q
              · subst q
                have : i < listed.size := by rw [hsz]; omega
                exact ⟨i, o', hoi', him, hd', by simp [this]⟩
              · exact hold q
  subst hcs
  have hinit : DSat κ l m hs Γ Ls (fun Γc L' => OkL κ l.toArray Q (l.drop m) (zipH (Γc ++ Γ) hs) L') (Array.replicate l.toArray.size false) (noneAt hs 0) [] L a w.drew :=
    ⟨s.defers, s.size, s.holds.drew, s.le.trans (Le.drew _ w), s.env.le (Le.drew _ w),
     ⟨by simp, fun j oj _ hl => (by rw [getD_replicate_false] at hl; cases hl), fun t _ ht => getD_in (by simpa using ht) (getD_replicate_false _ _)⟩,
     fun k d T _ hl => (by rw [getD_replicate_false] at hl; cases hl),
     fun p hp => (getD_in (by have h1 := Nat.lt_of_succ_le (Nat.le_of_ble_eq_true (List.all_eq_true.1 hcm p hp)); simp; omega) (getD_replicate_false _ _)),
     fun k hk _ => (by have := none_at (b := 0) hk; simpa using this),
     nodup_of hcn, fun p hp => (by cases hp), ⟨hLs, .inr hLe⟩, h,
     fun p hp => Nat.lt_of_succ_le (Nat.le_of_ble_eq_true (List.all_eq_true.1 hcm p hp)),
     fun t T ht => (s.env.le (Le.drew _ w)) t T ht,
     fun p hp => by
       have gen : ∀ (us : Hs) (b : Nat), p ∈ noneAt us b → ∃ k, p = b + k ∧ us[k]? = some none := by
         intro us
         induction us with
         | nil => intro b hb; cases hb
         | cons x us ih =>
           intro b hb
           cases x with
           | some _ => obtain ⟨k, h1, h2⟩ := ih (b + 1) hb; exact ⟨k + 1, by omega, by simpa using h2⟩
           | none =>
             rcases List.mem_cons.1 hb with q | q
             · exact ⟨0, by omega, rfl⟩
             · obtain ⟨k, h1, h2⟩ := ih (b + 1) q; exact ⟨k + 1, by omega, by simpa using h2⟩
       obtain ⟨k, h1, h2⟩ := gen hs 0 hp
       rw [show p = k by omega]; exact h2⟩
  refine wp_region_any hm ?_
  have hcnt : ∀ k, cnt k (Array.replicate l.toArray.size false) ≤ k := by
    intro k
    induction k with
    | zero => exact Nat.le_refl _
    | succ k ih => simp only [cnt]; split <;> omega
  refine wpAny_le ?_ (key _ _ _ _ _ a w.drew rfl hinit)
  have := hcnt m
  simp at this ⊢; omega
end
end Go.Proofs.YtocfnpnnbmicmaaDoor.Tc
end
section
set_option linter.unusedVariables false
set_option linter.unusedSimpArgs false
namespace Go.Proofs.YtocfnpnnbmicmaaDoor.Tc
open Go Go.RowKit
theorem fold_get (off : Nat) : ∀ (vs : List Value) (k : Nat) (cs : Array Value), off + k + vs.length ≤ cs.size →
  ((vs.zipIdx k).foldl (fun cs (p : Value × Nat) => cs.setIfInBounds (off + p.2) p.1) cs).size = cs.size ∧
  ∀ j, ((vs.zipIdx k).foldl (fun cs (p : Value × Nat) => cs.setIfInBounds (off + p.2) p.1) cs)[j]? = if j < off + k then cs[j]? else if j < off + k + vs.length then vs[j - (off + k)]? else cs[j]?
 | [], k, cs, _ => ⟨rfl, fun j => by simp; omega⟩
 | v :: vs, k, cs, h => by
  simp only [List.length_cons] at h
  obtain ⟨h1, h2⟩ := fold_get off vs (k + 1) (cs.setIfInBounds (off + k) v) (by simp; omega)
  simp only [List.zipIdx_cons, List.foldl_cons]
  refine ⟨by rw [h1]; simp, fun j => ?_⟩
  rw [h2 j]
  simp only [List.length_cons]
  by_cases h3 : j < off + k
  ·rw [if_pos (by omega), if_pos h3, Array.getElem?_setIfInBounds_ne (by omega)]
  ·rw [if_neg h3]
   by_cases h4 : j = off + k
   ·subst h4
    rw [if_pos (by omega), if_pos (by omega)]
    rw [Array.getElem?_setIfInBounds_self_of_lt (by omega)]
    simp
   ·rw [if_neg (by omega)]
    by_cases h5 : j < off + k + (vs.length + 1)
    ·rw [if_pos (by omega), if_pos h5]
     rw [show j - (off + k) = (j - (off + (k + 1))) + 1 by omega]
     simp
    ·rw [if_neg (by omega), if_neg h5, Array.getElem?_setIfInBounds_ne (by omega)]
theorem arr_fold {ts ps : List Ty} {M : Fb} {w : World} {cs vs : Array Value} {off : Nat} (hc : ArrAt ts M w cs) (hv : ArrAt ps M w vs) (h : off + ps.length ≤ ts.length) :
  ArrAt (over ts off ps) M w (vs.zipIdx.foldl (fun cs (p : Value × Nat) => cs.setIfInBounds (off + p.2) p.1) cs) := by
 have e : vs.zipIdx.foldl (fun cs (p : Value × Nat) => cs.setIfInBounds (off + p.2) p.1) cs = (vs.toList.zipIdx 0).foldl (fun cs (p : Value × Nat) => cs.setIfInBounds (off + p.2) p.1) cs := by
  rw [← Array.foldl_toList]; simp
 have h1 := hc.1
 have h2 := hv.1
 obtain ⟨h3, h4⟩ := fold_get off vs.toList 0 cs (by simp; omega)
 rw [e]
 refine ⟨by rw [h3, over_length _ _ _ h, h1], fun j t ht => ?_⟩
 rw [over_get _ _ _ h] at ht
 rw [h4]
 simp only [Nat.add_zero, Array.length_toList, h2, Array.getElem?_toList]
 split at ht
 ·rename_i hj; rw [if_pos hj]; exact hc.2 j t ht
 ·rename_i hj
  rw [if_neg hj]
  split at ht
  ·rename_i hj2; rw [if_pos hj2]; exact hv.2 _ t ht
  ·rename_i hj2; rw [if_neg hj2]; exact hc.2 j t ht
def Fill (Γ : Cx) (place : Nat → Option (Nat × Nat)) : List (Nat × Operand) → List Ty → List Ty → Prop
 | [], ts, us => us = ts
 | (i, x) :: r, ts, us => ∃ T ps off, opTy Γ x = some T ∧ PartTy T ps ∧ place i = some (off, ps.length) ∧ Nat.ble (off + ps.length) ts.length = true ∧ Fill Γ place r (over ts off ps) us
theorem fill_run {Γ : Cx} {L : List Item} {a : Act} {w : World} {place : Nat → Option (Nat × Nat)} (he : EnvOk Γ L a.tmps w) : ∀ (parts : List (Nat × Operand)) (ts us : List Ty) (cs : Array Value), ArrAt ts (foot L) w cs → Fill Γ place parts ts us →
  ∃ cs', Instr.fill place cs (parts.map fun p => (p.1, a.eval p.2)) = some cs' ∧ ArrAt us (foot L) w cs'
 | [], ts, us, cs, hc, hf => by
  have hf' : us = ts := hf
  subst hf'; exact ⟨cs, rfl, hc⟩
 | (i, x) :: r, ts, us, cs, hc, hf => by
  obtain ⟨T, ps, off, h1, h2, h3, h4, h5⟩ := hf
  have h4' := Nat.le_of_ble_eq_true h4
  have hv := h2 _ _ _ (opTy_holds he h1)
  obtain ⟨cs', h6, h7⟩ := fill_run he r _ us _ (arr_fold hc hv h4') h5
  refine ⟨cs', ?_, h7⟩
  simp only [List.map_cons, Instr.fill, h3]
  rw [if_neg (by simp only [hv.1, hc.1, bne_self_eq_false, ne_eq, not_true_eq_false, decide_false, Bool.false_or, decide_eq_true_eq]; omega)]
  exact h6
section
variable {κ : Kx} {Q : Post} {Γ : Cx} {L : List Item} {ops : Array Oper} {rest : List Oper}
variable {dst : Option Nat} {ty : TypeId} {pos : String} {after : Array Edge} {gd : Option (Nat × Bool)}
theorem does_build {t : TypeId} {z : Value} {fs : Array Field} {places : List (Nat × Nat)} {parts : Array (Nat × Operand)} (us : List Ty) (hz : ∀ w, (zeroValue t).run κ.P w = .ok z w) (hu : κ.P.underlying t = some (.struct fs)) (hp : fs.toList.mapM (fun f => (κ.P.info? f.type).map fun i => (f.offset, i.size)) = some places)
  (h1 : z.cells.toList.all Value.oneCell' = true) (hf : Fill Γ (fun i => places[i]?) parts.toList (z.cells.toList.map Ty.val) us) : Does κ ⟨dst, .build t parts, ty, pos, after, gd⟩ Γ L (Ty.agg us) :=
 does_of_run fun L' a w _ _ he => by
  obtain ⟨cs, h2, h3⟩ := fill_run he parts.toList _ us z.cells (by have := arr_vals (M := foot L') (w := w) z.cells.toList h1; simpa using this) hf
  have h4 : Instr.fill (fun i => places.toArray[i]?) z.cells (parts.toList.map fun p => (p.1, a.eval p.2)) = some cs := by simpa using h2
  exact ⟨.agg cs, by simp [execOp, Instr.build, run_underlying hu, hz, Array.mapM_eq_mapM_toList, run_places w _ _ hp, h2], cs, rfl, h3⟩
theorem does_buildSlice {α : Type} {sz bytes : Nat} {f : α → List Ty} {t e : TypeId} {z : Value} {parts : Array (Nat × Operand)} {len : Nat} (l : List α) (us : List Ty) (hE : ElTy κ.P t e z sz bytes) (hlen : l.length = len) (hbig : Nat.ble (len * sz) 16777216 = true)
  (h1 : z.cells.toList.all Value.oneCell' = true) (hf : Fill Γ (fun i => some (i * sz, sz)) parts.toList ((List.replicate len (z.cells.toList.map Ty.val)).flatten) us) (hus : us = (l.map f).flatten) (hfl : ∀ y, (f y).length = sz) :
  Does κ ⟨dst, .buildSlice t len parts, ty, pos, after, gd⟩ Γ L (tL sz f l) := fun L' a w hs hh he K Q hk => by
 obtain ⟨i, hi1, hi2, hi3, hi4⟩ := hE.info
 have hzc : z.cells.size = sz := hE.zc
 have harr : ArrAt ((List.replicate len (z.cells.toList.map Ty.val)).flatten) (foot L') w ((Array.range (len * sz)).map (fun x => z.cells[x % z.cells.size]!)) := by
  refine ⟨by simp [hzc], fun j T hT => ?_⟩
  have hlt : j < len * sz := by have := (List.getElem?_eq_some_iff.1 hT).1; simpa [hzc] using this
  have hel := els_flat (sz := sz) (ess := List.replicate len (z.cells.toList.map Ty.val)) (fun es hes => by rw [List.eq_of_mem_replicate hes]; simpa using hzc) (j / sz) (j % sz) (Nat.mod_lt _ hE.pos)
  rw [Nat.div_add_mod' j sz, hT] at hel
  have hdl : j / sz < len := (Nat.div_lt_iff_lt_mul hE.pos).2 hlt
  simp only [List.getElem?_replicate, hdl, if_true, Option.bind_some, List.getElem?_map] at hel
  obtain ⟨v, hv, hT'⟩ := Option.map_eq_some_iff.1 hel.symm
  subst hT'
  refine ⟨v, ?_, List.all_eq_true.1 h1 v (List.mem_of_getElem? hv), rfl⟩
  have hv' : z.cells[j % sz]? = some v := by simpa using hv
  simp [hlt, hzc, getElem!_def, hv']
 obtain ⟨cs, h2, h3⟩ := fill_run he parts.toList _ us _ harr hf
 have hrun : (Instr.buildSlice t len (parts.map fun p => (p.1, a.eval p.2))).run κ.P w = .ok (.slice (some ⟨w.heap.size, 0, none⟩) len len) (w.alloc (.cells cs e)) := by
  have hb := Nat.le_of_ble_eq_true hbig
  have hb' : ¬ (len * sz > 16777216) := by omega
  by_cases h0 : len * sz = 0
  ·have h2' := h2
   have hr0 : ∀ g : Nat → Value, (Array.range 0).map g = #[] := fun g => by simp
   simp only [h0, hr0] at h2'
   simp [Instr.buildSlice, run_underlying hE.sl, hE.run, h0, newRow, hr0, h2']
  ·simp [Instr.buildSlice, run_underlying hE.sl, hE.run, hb', h0, zeroValue, typeInfo, hi1, hi2, newRow, h2]
 have hnew := hh.new (i' := Item.row (.slice (some ⟨w.heap.size, 0, none⟩) len len) e sz (l.map f)) (w' := w.alloc (.cells cs e)) (by simp) rfl rfl rfl (fun b hb => Below.heap_alloc w _ b hb)
  (fun b hb => by have hb' : (Value.slice (some ⟨w.heap.size, 0, none⟩) len len).ownBlock = some b := hb; simp only [Value.ownBlock, Option.some.injEq] at hb'; omega)
  (fun M hl _ _ => by
   have hb := Nat.le_of_ble_eq_true hbig
   have hle : len ≤ len * sz := Nat.le_mul_of_pos_right _ hE.pos
   refine .inr ⟨w.heap.size, len, cs, by simp [hlen], heap_alloc_new w _, by simp [hlen], by simp only [maxLen]; omega, ?_, ?_⟩
   ·rw [h3.1, hus, flat_len (sz := sz) (fun es hes => by obtain ⟨y, _, rfl⟩ := List.mem_map.1 hes; exact hfl y)]; simp [hlen]
   ·refine arr_els (fun es hes => by obtain ⟨y, _, rfl⟩ := List.mem_map.1 hes; exact hfl y) fun j T hT => ?_
    rw [← hus] at hT
    obtain ⟨u, hu, hu1, hu2⟩ := h3.2 j T hT
    exact ⟨u, hu, hu1, T.mono hu2 hl⟩)
 obtain ⟨h5, h6, h7⟩ := erase_facts hnew.1 (n := 0) rfl
 have hrow : RowAt (.slice (some ⟨w.heap.size, 0, none⟩) len len) e sz (l.map f) (foot (Item.row (.slice (some ⟨w.heap.size, 0, none⟩) len len) e sz (l.map f) :: L')) (w.alloc (.cells cs e)) := hnew.1.each (Item.row _ e sz (l.map f)) (by simp)
 unfold Oper.wp
 have hex : (execOp a.eval ⟨dst, .buildSlice t len parts, ty, pos, after, gd⟩).run κ.P w = .ok (.value (.slice (some ⟨w.heap.size, 0, none⟩) len len)) (w.alloc (.cells cs e)) := by
  simp only [execOp]; simp [hrun]
 rw [hex]
 exact hk _ _ h5 (hnew.2.trans h6) (row_slice hrow h6 (fun b hb => h7 b hb))
theorem does_loadG {t : TypeId} {g : Nat} {T : Ty} (hag : ∀ w, (isAgg t).run κ.P w = .ok false w) (hg : (g, T) ∈ κ.gl) : Does κ ⟨dst, .load t (.global g), ty, pos, after, gd⟩ Γ L T :=
 does_of_run fun L' a w hs hh he => by
  obtain ⟨_, v, hc, _, hv⟩ := hh.glob g T hg 0 T rfl
  rw [add_zero] at hc
  exact ⟨v, by simp [execOp, Act.eval, Instr.loadAt, Instr.sureAddr, loadVar, hag, hc], hv⟩
theorem does_makeFunc {fn : Fn} {caps : Array Operand} {vs : List Value} (hc : caps.toList.map (opTy Γ) = vs.map (fun v => some (Ty.val v))) : Does κ ⟨dst, .makeFunc fn #[] caps, ty, pos, after, gd⟩ Γ L (Ty.val (.func fn #[] vs.toArray)) :=
 does_of_run fun L' a w _ _ he => by
  refine ⟨.func fn #[] vs.toArray, ?_, rfl⟩
  have h1 : caps.map a.eval = vs.toArray := by
   apply Array.ext'
   simp only [Array.toList_map]
   apply List.ext_getElem?
   intro i
   have h2 := congrArg (fun l => l[i]?) hc
   simp only [List.getElem?_map] at h2 ⊢
   cases h3 : caps.toList[i]? with
   | none => rw [h3] at h2; simp only [Option.map_none] at h2; cases h4 : vs[i]? with
    | none => simp [h4]
    | some v => rw [h4] at h2; cases h2
   | some x =>
    rw [h3] at h2
    simp only [Option.map_some] at h2
    cases h4 : vs[i]? with
    | none => rw [h4] at h2; cases h2
    | some v =>
     rw [h4] at h2
     simp only [Option.map_some, Option.some.injEq] at h2
     have : a.eval x = v := opTy_holds he h2
     simp [this]
  simp [execOp, Instr.makeFunc, h1]
end
end Go.Proofs.YtocfnpnnbmicmaaDoor.Tc
end
section
set_option linter.unusedVariables false
set_option linter.unusedSimpArgs false
namespace Go.Proofs.YtocfnpnnbmicmaaDoor.Tc
open Go Go.RowKit
theorem bs {α β : Type} {o : Option α} {f : α → Option β} {r : β} (h : o.bind f = some r) : ∃ a, o = some a ∧ f a = some r := by
 cases o with
 | none => cases h
 | some a => exact ⟨a, rfl, h⟩
def cnd {α : Type} (b : Bool) (x y : α) : α := match b with | true => x | false => y
theorem ct {α : Type} {b : Bool} {x y r : α} (hb : b = true) (h : cnd b x y = r) : x = r := by subst hb; exact h
theorem cf {α : Type} {b : Bool} {x y r : α} (hb : b = false) (h : cnd b x y = r) : y = r := by subst hb; exact h
def sqv {S R : Type} (z : S ⊕ R) (k : S → Option R) : Option R := match z with | .inl s => k s | .inr r => some r
def sq {S R : Type} (o : Option (S ⊕ R)) (k : S → Option R) : Option R := o.bind fun z => sqv z k
theorem sqs {S R : Type} {o : Option (S ⊕ R)} {k : S → Option R} {r : R} (h : sq o k = some r) : ∃ z, o = some z ∧ sqv z k = some r := bs h
def guardO {α : Type} (c : Bool) (x : Option α) : Option α := cnd c x none
theorem gs {α : Type} {c : Bool} {x : Option α} {r : α} (h : guardO c x = some r) : c = true ∧ x = some r := by cases c with | true => exact ⟨rfl, h⟩ | false => cases h
theorem and_t {b e : Bool} (h : b = true) : e = (b && e) := by subst h; rfl
theorem and_f {b e : Bool} (h : b = false) : false = (b && e) := by subst h; rfl
theorem or_t {b e : Bool} (h : b = true) : true = (b || e) := by subst h; rfl
theorem or_f {b e : Bool} (h : b = false) : e = (b || e) := by subst h; rfl
theorem ne0 {n : Int} (h : (n != 0) = true) : n ≠ 0 := by simpa using h
section
variable {κ : Kx} {Q : Post} {Γ : Cx} {L : List Item} {ops : Array Oper} {rest l : List Oper}
theorem wpList_app {P : Program} {ops : Array Oper} {Q : Post} {l2 : List Oper} : ∀ (l1 : List Oper) (a : Act) (w : World), wpList P ops (Exit.then (wpList P ops Q l2) Q) l1 a w → wpList P ops Q (l1 ++ l2) a w
 | [], a, w, h => h
 | o :: l1, a, w, h => by
  have hq : ∀ (K K' : Act → World → Prop), (∀ a w, K a w → K' a w) → o.wp P a w K (Exit.then (wpList P ops Q l2) Q) → o.wp P a w K' Q := by
   intro K K' hK hh
   unfold Oper.wp at hh ⊢
   generalize (execOp a.eval o).run P w = r at hh
   cases r with
   | ok n w' =>
    cases n <;> simp only [Oper.upon] at hh ⊢ <;>
     first
      | exact hK _ _ hh
      | exact hh.mono (fun e w'' he => by cases e <;> first | exact hK _ _ he | exact he)
      | exact hh.mono (fun _ _ he => hK _ _ he)
      | exact hh
   | halt x w' => cases x <;> simp only [Oper.upon] at hh ⊢ <;> exact hh
  simp only [List.cons_append, wpList] at h ⊢
  split
  ·rename_i hw
   rw [if_pos hw] at h
   rcases h with h | ⟨h1, h2⟩
   ·exact .inl (hq _ _ (fun a w h => wpList_app l1 a w h) h)
   ·exact .inr ⟨h1, h2⟩
  ·rename_i hw
   rw [if_neg hw] at h
   exact wpList_app l1 _ _ h
theorem okL_meet {X : Type} (n : Nat) (I : X → Prop) (G : X → Cx) (Lf : X → List Item) (l2 : List Oper) (hl : l.drop n = l2) (h : OkL κ ops (Exit.then (Meet κ I G Lf) Q) (l.take n) Γ L) (hy : ∀ x, I x → OkL κ ops Q l2 (G x) (Lf x)) : OkL κ ops Q l Γ L := fun a w s => by
 subst hl
 have e : l = l.take n ++ l.drop n := (List.take_append_drop n l).symm
 rw [e]
 refine wpList_app _ a w ?_
 have mono : ∀ (l1 : List Oper) (a : Act) (w : World), wpList κ.P ops (Exit.then (Meet κ I G Lf) Q) l1 a w → wpList κ.P ops (Exit.then (wpList κ.P ops Q (l.drop n)) Q) l1 a w := by
  intro l1
  induction l1 with
  | nil => intro a w h'; obtain ⟨x, hx, hs⟩ := h'; exact hy x hx a w hs
  | cons o l1 ih =>
   intro a w h'
   simp only [wpList] at h' ⊢
   split
   ·rename_i hw
    rw [if_pos hw] at h'
    rcases h' with h' | ⟨h1, h2⟩
    ·refine .inl ?_
     unfold Oper.wp at h' ⊢
     generalize (execOp a.eval o).run κ.P w = r at h'
     cases r with
     | ok n w' =>
      cases n <;> simp only [Oper.upon] at h' ⊢ <;>
       first
        | exact ih _ _ h'
        | exact h'.mono (fun e w'' he => by cases e <;> first | exact ih _ _ he | exact he)
        | exact h'.mono (fun _ _ he => ih _ _ he)
        | exact h'
     | halt x w' => cases x <;> simp only [Oper.upon] at h' ⊢ <;> exact h'
    ·exact .inr ⟨h1, h2⟩
   ·rename_i hw
    rw [if_neg hw] at h'
    exact ih _ _ h'
 exact mono _ a w (h a w s)
theorem okL_split (b : Bool) (ht : b = true → OkL κ ops Q l Γ L) (hf : b = false → OkL κ ops Q l Γ L) : OkL κ ops Q l Γ L := by cases hb : b with | true => exact ht hb | false => exact hf hb
theorem okC_split {c : Code} (b : Bool) (ht : b = true → OkC κ c Q Γ L) (hf : b = false → OkC κ c Q Γ L) : OkC κ c Q Γ L := by cases hb : b with | true => exact ht hb | false => exact hf hb
theorem sub_eq {T T' : Ty} (h : T = T') : Sub T T' := by subst h; exact fun _ _ _ h => h
theorem pm {L R : List Item} {it : Item} (n : Nat) (hn : L[n]? = some it) (h : (L.eraseIdx n).Perm R) : L.Perm (it :: R) := (erase_at hn).trans (h.cons it)
theorem pr (L : List Item) : L.Perm L := List.Perm.refl L
theorem Sat.keep {a : Act} {w : World} {L' : List Item} : ∀ (D : List Item), L.Perm (D ++ L') → Sat κ Γ L a w → Sat κ Γ L' a w := fun D hp s => by
 have s1 := s.perm hp
 clear hp s
 induction D with
 | nil => exact s1
 | cons i D ih => exact ih s1.tail
theorem okX_items {x : Exit} (D L' : List Item) (hp : L.Perm (D ++ L')) (h : OkX κ Q x Γ L') : OkX κ Q x Γ L := fun a w s => h a w (s.keep D hp)
theorem Sat.nilrow {a : Act} {w : World} {sz : Nat} {α : Type} (f : α → List Ty) (e : TypeId) (t : Nat) (ht : Γ.look t = some (Ty.val (.slice none 0 0))) (s : Sat κ Γ L a w) : Sat κ ((t, Ty.own (.slice none 0 0)) :: Γ) (rowL (.slice none 0 0) e sz f [] :: L) a w := by
 have hn := s.holds.new (i' := rowL (.slice none 0 0) e sz f []) (Nat.le_refl _) rfl rfl rfl (fun _ _ => rfl) (fun b hb => by have hb' : (Value.slice none 0 0).ownBlock = some b := hb; simp [Value.ownBlock] at hb') (fun M hl _ _ => .inl ⟨rfl, rfl⟩)
 refine ⟨s.defers, s.size, hn.1, s.le.trans hn.2, fun i U hi => ?_⟩
 simp only [Cx.look] at hi
 split at hi
 ·rename_i hk; cases hi; subst hk; exact ⟨s.env _ _ ht, by rw [show a.tmps.getD t undef = _ from s.env _ _ ht]; rfl⟩
 ·exact U.mono (s.env _ _ hi) hn.2
theorem okC_nilrow {c : Code} {sz : Nat} {α : Type} (f : α → List Ty) (e : TypeId) (t : Nat) (ht : Γ.look t = some (Ty.val (.slice none 0 0))) (h : OkC κ c Q ((t, Ty.own (.slice none 0 0)) :: Γ) (rowL (.slice none 0 0) e sz f [] :: L)) : OkC κ c Q Γ L := fun a w s => h a w (s.nilrow f e t ht)
theorem okX_nilrow {c : Exit} {sz : Nat} {α : Type} (f : α → List Ty) (e : TypeId) (t : Nat) (ht : Γ.look t = some (Ty.val (.slice none 0 0))) (h : OkX κ Q c ((t, Ty.own (.slice none 0 0)) :: Γ) (rowL (.slice none 0 0) e sz f [] :: L)) : OkX κ Q c Γ L := fun a w s => h a w (s.nilrow f e t ht)
theorem wrap_u64_nonneg (n : Int) : 0 ≤ IntKind.u64.wrap n := by
 simp only [IntKind.wrap, IntKind.bits, IntKind.signed]; simp; omega
variable {dst : Option Nat} {op : Op} {ty : TypeId} {pos : String} {after : Array Edge} {gd : Option (Nat × Bool)}
theorem does_call0 {fo : Operand} {xs : Array Operand} {tys : Array TypeId} {f : FuncId} {Bs : List Ty} {T : Ty} (hC : CallP κ.P κ.gl f Bs T) (hf : opTy Γ fo = some (Ty.val (.func (.func f) #[] #[]))) (hc : ∀ args w, (callFunc f args).run κ.P w = .ok (.enter f args) w)
  (hx : xs.toList.map (opTy Γ) = Bs.map some) : Does κ ⟨dst, .call ⟨.value fo, xs, tys⟩, ty, pos, after, gd⟩ Γ L T := does_call hC hf hc hx rfl (List.append_nil Bs).symm
theorem doesO_call0 {C : Ty → List Item → Prop} {X : Type} {Out : X → Ty × List Item} {Lin : List Item} {fo : Operand} {xs : Array Operand} {tys : Array TypeId} {f : FuncId} {Bs : List Ty} (Lr : List Item) (hC : CallOk κ.P κ.gl f Bs Lin X Out)
  (hf : opTy Γ fo = some (Ty.val (.func (.func f) #[] #[]))) (hc : ∀ args w, (callFunc f args).run κ.P w = .ok (.enter f args) w)
  (hx : xs.toList.map (opTy Γ) = Bs.map some) (hL : L.Perm (Lin ++ Lr)) (h : ∀ x, C (Out x).1 ((Out x).2 ++ Lr)) :
  DoesO κ ⟨dst, .call ⟨.value fo, xs, tys⟩, ty, pos, after, gd⟩ Γ L C := doesO_call Lr hC hf hc hx rfl (List.append_nil Bs).symm hL h
theorem okL_skipU {j : Nat} {want : Bool} (d : Nat) (dj : Nat) (hj : (ops[j]?).bind (·.dst) = some dj) (hb : Γ.look dj = some (Ty.val undef)) (hd : dst = some d) (hn : Nat.blt d κ.n = true)
    (h : OkL κ ops Q rest ((d, Ty.val undef) :: Γ) L) : OkL κ ops Q (⟨dst, op, ty, pos, after, some (j, want)⟩ :: rest) Γ L := fun a w s => by
  subst hd
  refine wpList_step fun K hK => ?_
  have he : a.tmps.getD dj undef = undef := s.env dj _ hb
  have this : ∀ b, a.tmps[dj]? ≠ some (.bool b) := fun b hb => by
    rw [Array.getD_eq_getD_getElem?, hb] at he
    simp [undef] at he
  have h7 : yielded ops a.tmps j = none := by
    simp only [yielded, hj, Option.bind_some]
    first
      | done
      | (split
         · rename_i b hb; exact absurd hb (this b)
         · rfl)
  rw [if_neg (by simp [Region.wanted, h7])]
  exact hK _ _ (h _ _ (s.put d _ undef (Nat.lt_of_succ_le (Nat.le_of_ble_eq_true hn)) s.holds (Le.refl _ _) rfl))
end
end Go.Proofs.YtocfnpnnbmicmaaDoor.Tc
end
section
set_option linter.unusedVariables false
set_option linter.unusedSimpArgs false
namespace Go.Proofs.YtocfnpnnbmicmaaDoor.Tc
open Go Go.RowKit
abbrev w64 (n : Int) : Int := IntKind.i64.wrap n
abbrev u64 (n : Int) : Int := IntKind.u64.wrap n
def lS (s : ByteArray) : List Ty := [tS s]
def out {S T : Type} (o : Option T) : Option (S ⊕ T) := o.map .inr
def inn {S T : Type} (s : S) : Option (S ⊕ T) := some (.inl s)
theorem outh {S T : Type} {o : Option T} {z : S ⊕ T} {k : S → Option T} {r : T} (h : out o = some z) (hz : sqv z k = some r) : o = some r := by
 cases o with
 | none => cases h
 | some t => cases h; exact hz
theorem innh {S T : Type} {s : S} {z : S ⊕ T} (h : (inn s : Option (S ⊕ T)) = some z) : z = .inl s := (Option.some.inj h).symm
theorem smh {S : Type} {s z : S} (h : some s = some z) : z = s := (Option.some.inj h).symm
theorem nz {α : Type} {z : α} (h : (none : Option α) = some z) : False := by cases h
theorem cn {Γ : Cx} : Cov Γ [] := trivial
theorem cc {Γ r : Cx} {k : Nat} {t : Ty} (h : Γ.look k = some t) (hr : Cov Γ r) : Cov Γ ((k, t) :: r) := ⟨h, hr⟩
theorem dn {κ : Kx} {l : List Oper} {hs : Hs} {Γ : Cx} {Z : Two} {k : Nat} : DrawOps κ l hs Γ Z k [] [] := trivial
theorem dc {κ : Kx} {l : List Oper} {hs : Hs} {Γ : Cx} {Z : Two} {k : Nat} {o : Oper} {os : List Oper} {p : Nat × Ty} {r : Hs} (h : DrawOp κ l hs Γ Z.late o p.2) (hr : DrawOps κ l hs Γ Z (k + 1) os r) : DrawOps κ l hs Γ Z k (o :: os) (some p :: r) := ⟨.inl h, hr⟩
theorem de {κ : Kx} {l : List Oper} {hs : Hs} {Γ : Cx} {Z : Two} {k : Nat} {o : Oper} {os : List Oper} {p : Nat × Ty} {r : Hs} (he : isEarly l Z k = true) (h : DrawOp κ l hs Γ Z.early o p.2) (hr : DrawOps κ l hs Γ Z (k + 1) os r) : DrawOps κ l hs Γ Z k (o :: os) (some p :: r) := ⟨.inr ⟨he, h⟩, hr⟩
theorem ds {κ : Kx} {l : List Oper} {hs : Hs} {Γ : Cx} {Z : Two} {k : Nat} {o : Oper} {os : List Oper} {r : Hs} (hr : DrawOps κ l hs Γ Z (k + 1) os r) : DrawOps κ l hs Γ Z k (o :: os) (none :: r) := hr
theorem fn_ {Γ : Cx} {place : Nat → Option (Nat × Nat)} {ts us : List Ty} (h : us = ts) : Fill Γ place [] ts us := h
theorem fc {Γ : Cx} {place : Nat → Option (Nat × Nat)} {i : Nat} {x : Operand} {r : List (Nat × Operand)} {ts us : List Ty} {T : Ty} (ps : List Ty) (off : Nat) (h1 : opTy Γ x = some T) (h2 : PartTy T ps) (h3 : place i = some (off, ps.length)) (h4 : Nat.ble (off + ps.length) ts.length = true) (h5 : Fill Γ place r (over ts off ps) us) :
  Fill Γ place ((i, x) :: r) ts us := ⟨T, ps, off, h1, h2, h3, h4, h5⟩
theorem an {Γ : Cx} {v : Value} : AllOwn Γ v [] := trivial
theorem ac {Γ : Cx} {v : Value} {t : Nat} {ts : List Nat} (h : Γ.look t = some (Ty.own v)) (hr : AllOwn Γ v ts) : AllOwn Γ v (t :: ts) := ⟨h, hr⟩
inductive SubL : List Ty → List Ty → Prop where
 | nil : SubL [] []
 | cons {t u : Ty} {ts us : List Ty} (h : Sub t u) (hr : SubL ts us) : SubL (t :: ts) (u :: us)
theorem sub_refl (t : Ty) : Sub t t := fun _ _ _ h => h
theorem SubL.len {ts us : List Ty} (h : SubL ts us) : ts.length = us.length := by induction h with | nil => rfl | cons _ _ ih => simp [ih]
theorem SubL.at {ts us : List Ty} (h : SubL ts us) : ∀ (j : Nat) (u : Ty), us[j]? = some u → ∃ t, ts[j]? = some t ∧ Sub t u := by
 induction h with
 | nil => intro j u hu; simp at hu
 | cons h1 _ ih =>
  intro j u hu
  cases j with
  | zero => cases hu; exact ⟨_, rfl, h1⟩
  | succ j => exact ih j u (by simpa using hu)
theorem arr_sub {ts us : List Ty} {M : Fb} {w : World} {cs : Array Value} (h : SubL ts us) (ha : ArrAt ts M w cs) : ArrAt us M w cs :=
 ⟨by rw [ha.1, h.len], fun j u hu => by
  obtain ⟨t, ht, hs⟩ := h.at j u hu
  obtain ⟨x, hx, h1, h2⟩ := ha.2 j t ht
  exact ⟨x, hx, h1, hs _ _ _ h2⟩⟩
theorem part_sub {T : Ty} {ps qs : List Ty} (h : PartTy T ps) (hs : SubL ps qs) : PartTy T qs := fun M w v hv => arr_sub hs (h M w v hv)
theorem part_of {T T' : Ty} {ps : List Ty} (hs : Sub T T') (h : PartTy T' ps) : PartTy T ps := fun M w v hv => h M w v (hs M w v hv)
theorem sub_aggs {ts us : List Ty} (h : SubL ts us) : Sub (Ty.agg ts) (Ty.agg us) := fun M w v ⟨cs, e, ha⟩ => ⟨cs, e, arr_sub h ha⟩
section
variable {κ : Kx} {Q : Post} {Γ : Cx} {L : List Item} {ops : Array Oper} {rest l : List Oper}
variable {dst : Option Nat} {op : Op} {ty : TypeId} {pos : String} {after : Array Edge} {gd : Option (Nat × Bool)}
theorem does_weak {o : Oper} {T T' : Ty} (h : Does κ o Γ L T) (hs : Sub T T') : Does κ o Γ L T' := fun L' a w h1 h2 h3 K Q hk => h L' a w h1 h2 h3 K Q fun v w' x y z => hk v w' x y (hs _ _ _ z)
theorem okC_meetE {X : Type} {x : Code} (I : X → Prop) (G : X → Cx) (Lf : X → List Item) (h : OkC κ x (Exit.then (Meet κ I G Lf) Q) Γ L) (hy : ∀ x, I x → OkX κ Q .normal (G x) (Lf x)) :
  OkC κ x Q Γ L := fun a w s => by
 refine wp_mono (h a w s) ?_
 intro e a' w' hq
 cases e with
 | normal => obtain ⟨x, hx, hs⟩ := hq; exact hy x hx a' w' hs
 | _ => exact hq
theorem Sat.blksub {a : Act} {w : World} {g : Nat} {e : TypeId} {us us' : List Ty} (n : Nat) (hn : L[n]? = some (Item.blk g e us)) (hs : SubL us us') (s : Sat κ Γ L a w) : Sat κ Γ (L.set n (Item.blk g e us')) a w := by
 obtain ⟨cs, hg, ha⟩ : BlkAt g e us (foot L) w := s.holds.each _ (List.mem_of_getElem? hn)
 have h := s.holds.swapAt (i' := Item.blk g e us') hn (Nat.le_refl _) rfl rfl rfl (fun _ _ _ => rfl) (fun b hb => .inl hb) (fun M hl => ⟨cs, hg, arr_sub hs (ha.mono hl)⟩)
 exact ⟨s.defers, s.size, h.1, s.le.trans h.2, s.env.le h.2⟩
theorem okX_blksub {x : Exit} {g : Nat} {e : TypeId} {us : List Ty} (n : Nat) (us' : List Ty) (L' : List Item) (hn : L[n]? = some (Item.blk g e us)) (hs : SubL us us') (hL : L' = L.set n (Item.blk g e us')) (h : OkX κ Q x Γ L') : OkX κ Q x Γ L := fun a w s => by
 subst hL; exact h a w (s.blksub n hn hs)
theorem okC_publishB {c : Code} {v : Value} {e e2 : TypeId} {sz g : Nat} {ess : List (List Ty)} {us : List Ty} {R : List Item} (j : Nat) (ts : List Nat) (us' : List Ty) (hL : L.Perm (Item.row v e sz ess :: Item.blk g e2 us :: R)) (hj : us[j]? = some (Ty.own v)) (ht : AllOwn Γ v ts) (hu : us' = us.set j (Ty.slice sz ess))
  (h : OkC κ c Q (retype (Ty.slice sz ess) ts Γ) (Item.blk g e2 us' :: R)) : OkC κ c Q Γ L := fun a w s => by
 subst hu; exact h a w ((s.perm hL).publishB ts hj ht)
theorem Sat.nilrowB {a : Act} {w : World} {sz g j : Nat} {e2 : TypeId} {us : List Ty} {α : Type} (f : α → List Ty) (e : TypeId) (n : Nat) (hn : L[n]? = some (Item.blk g e2 us)) (hj : us[j]? = some (Ty.val (.slice none 0 0))) (s : Sat κ Γ L a w) :
  Sat κ Γ (rowL (.slice none 0 0) e sz f [] :: L.set n (Item.blk g e2 (us.set j (Ty.own (.slice none 0 0))))) a w := by
 obtain ⟨cs, hg, ha⟩ : BlkAt g e2 us (foot L) w := s.holds.each _ (List.mem_of_getElem? hn)
 have h := s.holds.swapAt (i' := Item.blk g e2 (us.set j (Ty.own (.slice none 0 0)))) hn (Nat.le_refl _) rfl rfl rfl (fun _ _ _ => rfl) (fun b hb => .inl hb) (fun M hl => ⟨cs, hg, by simp [ha.1], fun i T hT => by
  rw [List.getElem?_set] at hT
  split at hT
  ·rename_i hji
   subst hji
   obtain ⟨u, hu, hu1, hu2⟩ := ha.2 j _ hj
   split at hT
   ·cases hT; exact ⟨u, hu, hu1, hu2, hu1⟩
   ·cases hT
  ·obtain ⟨u, hu, hu1, hu2⟩ := ha.2 i T hT
   exact ⟨u, hu, hu1, T.mono hu2 hl⟩⟩)
 have hnn := h.1.new (i' := rowL (.slice none 0 0) e sz f []) (Nat.le_refl _) rfl rfl rfl (fun _ _ => rfl) (fun b hb => by have hb' : (Value.slice none 0 0).ownBlock = some b := hb; simp [Value.ownBlock] at hb') (fun M hl _ _ => .inl ⟨rfl, rfl⟩)
 exact ⟨s.defers, s.size, hnn.1, (s.le.trans h.2).trans hnn.2, (s.env.le h.2).le hnn.2⟩
theorem okC_nilrowB {c : Code} {sz g : Nat} {e2 : TypeId} {us : List Ty} {α : Type} (f : α → List Ty) (e : TypeId) (n j : Nat) (us' : List Ty) (L' : List Item) (hn : L[n]? = some (Item.blk g e2 us)) (hj : us[j]? = some (Ty.val (.slice none 0 0))) (hu : us' = us.set j (Ty.own (.slice none 0 0))) (hL : L' = rowL (.slice none 0 0) e sz f [] :: L.set n (Item.blk g e2 us'))
  (h : OkC κ c Q Γ L') : OkC κ c Q Γ L := fun a w s => by
 subst hu hL; exact h a w (s.nilrowB f e n hn hj)
theorem okX_retC {P : Program} {gl : Gl} {n : Nat} {L0 Lt : List Item} {w0 : World} {fn : Func} {X : Type} {Out : X → Ty × List Item} {t g sz : Nat} {e ty : TypeId} {us : List Ty} (x : X) (hr : fn.results = #[.cell t ty]) (ht : Γ.look t = some (pAt g 0)) (i : Nat) (hi : L[i]? = some (Item.blk g e us)) (hag : ∀ w, (isAgg ty).run P w = .ok true w) (hsz : ∀ w, (sizeOf ty).run P w = .ok sz w) (hlen : us.length = sz)
  (hO : (Out x).1 = Ty.agg us) (D : List Item) (hL : L.Perm (D ++ ((Out x).2 ++ Lt))) : OkX ⟨P, gl, n, L0, w0⟩ (bodyPost P fn (RetP gl L0 w0 Lt Out)) .ret Γ L := fun a w s => by
 have h1 : a.tmps.getD t undef = .pointer (some ⟨g, 0, none⟩) := s.env t _ ht
 obtain ⟨cs, hg, ha⟩ : BlkAt g e us (foot L) w := s.holds.each _ (List.mem_of_getElem? hi)
 obtain ⟨vs, h2, h3, h4⟩ := cells_of (us := us) (M := foot L) (o := 0) hg (fun j T hj => by rw [Nat.zero_add]; exact ha.2 j T hj)
 have hrun := run_loadCells_list (P := P) w ⟨g, 0, none⟩ vs h3
 rw [h2, hlen] at hrun
 have hres : (results fn a.tmps).run P w = .ok (.agg vs.toArray) w := by
  have h1' : a.tmps[t]?.getD undef = .pointer (some ⟨g, 0, none⟩) := by rw [← Array.getD_eq_getD_getElem?]; exact h1
  simp [results, hr, h1', asAddr, loadVar, hag, hsz, hrun]
 have s2 := s.keep D hL
 refine ⟨s.defers, _, hres, _, x, rfl, s2.holds, s2.le, ?_⟩
 rw [hO]
 have hle : Le (foot L) w (foot ((Out x).2 ++ Lt)) w := by
  refine Le.of_iff w fun b hb => ?_
  exact (foot_perm hL b).2 ((foot_append _ _ b).2 (.inr hb))
 exact ⟨vs.toArray, rfl, h4.mono hle⟩
inductive ArgSub (Γ : Cx) : List Operand → List Ty → Prop where
 | nil : ArgSub Γ [] []
 | cons {x : Operand} {T B : Ty} {xs : List Operand} {Bs : List Ty} (h : opTy Γ x = some T) (hs : Sub T B) (hr : ArgSub Γ xs Bs) : ArgSub Γ (x :: xs) (B :: Bs)
theorem args_sub {L' : List Item} {a : Act} {w : World} (he : EnvOk Γ L' a.tmps w) : ∀ {xs : List Operand} {Bs : List Ty}, ArgSub Γ xs Bs → ArgsOk Bs (foot L') w (xs.toArray.map a.eval) := by
 intro xs Bs h
 induction h with
 | nil => exact ⟨by simp, fun j T hT => by simp at hT⟩
 | cons h hs _ ih =>
  refine ⟨by have := ih.1; simp at this ⊢; exact this, fun j U hU => ?_⟩
  cases j with
  | zero => cases hU; exact ⟨_, by simp, hs _ _ _ (opTy_holds he h)⟩
  | succ j =>
   obtain ⟨v, hv, h2⟩ := ih.2 j U (by simpa using hU)
   exact ⟨v, by simpa using hv, h2⟩
theorem does_callS {fo : Operand} {xs : List Operand} {tys : Array TypeId} {f : FuncId} {Bs : List Ty} {T : Ty} (hC : CallP κ.P κ.gl f Bs T) (hf : opTy Γ fo = some (Ty.val (.func (.func f) #[] #[]))) (hc : ∀ args w, (callFunc f args).run κ.P w = .ok (.enter f args) w)
  (hx : ArgSub Γ xs Bs) : Does κ ⟨dst, .call ⟨.value fo, xs.toArray, tys⟩, ty, pos, after, gd⟩ Γ L T := fun L' a w hs hh he K Q hk => by
 have e1 : a.eval fo = .func (.func f) #[] #[] := opTy_holds he hf
 unfold Oper.wp
 rw [run_call e1 hc, Array.append_empty]
 refine (hC L' w _ hh (args_sub he hx)).mono ?_
 rintro e w' ⟨v, _, rfl, h1, h2, h3⟩
 exact hk v w' h1 h2 h3
end
end Go.Proofs.YtocfnpnnbmicmaaDoor.Tc
end
section
set_option linter.unusedVariables false
set_option linter.unusedSimpArgs false
namespace Go.Proofs.YtocfnpnnbmicmaaDoor.Tc
open Go Go.RowKit
section
variable {κ : Kx} {Q : Post} {Γ : Cx} {L : List Item} {ops : Array Oper} {rest l : List Oper} {hs : Hs}
variable {dst : Option Nat} {op : Op} {ty : TypeId} {pos : String} {after : Array Edge} {gd : Option (Nat × Bool)}
theorem doesO_of {o : Oper} {T : Ty} {C : Ty → List Item → Prop} (h : Does κ o Γ L T) (hC : C T L) : DoesO κ o Γ L C := fun a w s K Q hk =>
 h L a w (fun _ h => h) s.holds s.env K Q fun v w' x y z => hk v w' T L x y z hC
def ChainAt (κ : Kx) (l : List Oper) (hs : Hs) (Γ : Cx) (Ls : Two) (F : Cx → List Item → Prop) (f : Nat) (rem : List Nat) (Γc : Cx) (L : List Item) (p : Nat) : Prop :=
 ∃ o, l[p]? = some o ∧ GOk l (ctxOf hs (Γc ++ Γ) o.after.toList) o ∧ DoesO κ o (ctxOf hs (Γc ++ Γ) o.after.toList) L (fun T L' => Stays Ls (rem.erase p) L' ∧ Chain κ l hs Γ Ls F f (rem.erase p) (putD o.dst T Γc) L')
theorem ch_step {Ls : Two} {F : Cx → List Item → Prop} {f : Nat} {rem : List Nat} {Γc : Cx} (ns : List Nat) (hn : nxt (ancs l []) rem = ns) (h : AllP (ChainAt κ l hs Γ Ls F f rem Γc L) ns) : Chain κ l hs Γ Ls F (f + 1) rem Γc L := ⟨ns, hn, h⟩
theorem ch_end {Ls : Two} {F : Cx → List Item → Prop} {rem : List Nat} {Γc : Cx} (h : F Γc L) : Chain κ l hs Γ Ls F 0 rem Γc L := h
theorem ap_nil {α : Type} {P : α → Prop} : AllP P [] := trivial
theorem ap_cons {α : Type} {P : α → Prop} {x : α} {r : List α} (h : P x) (hr : AllP P r) : AllP P (x :: r) := ⟨h, hr⟩
theorem ch_at {Ls : Two} {F : Cx → List Item → Prop} {f : Nat} {rem : List Nat} {Γc : Cx} {p : Nat} (o : Oper) (ho : l[p]? = some o) (hg : o.guard = none)
  (h : DoesO κ o (ctxOf hs (Γc ++ Γ) o.after.toList) L (fun T L' => Stays Ls (rem.erase p) L' ∧ Chain κ l hs Γ Ls F f (rem.erase p) (putD o.dst T Γc) L')) : ChainAt κ l hs Γ Ls F f rem Γc L p := ⟨o, ho, .inl hg, h⟩
end
end Go.Proofs.YtocfnpnnbmicmaaDoor.Tc
end
section
set_option linter.unusedVariables false
set_option linter.unusedSimpArgs false
namespace Go.Proofs.YtocfnpnnbmicmaaDoor.Tc
open Go Go.RowKit
def Ty.Exact (T : Ty) : Prop := ∀ M M' w w' v, T.holds M w v → T.holds M' w' v
theorem ex_val (v : Value) : (Ty.val v).Exact := fun _ _ _ _ _ h => h
theorem ex_own (v : Value) : (Ty.own v).Exact := fun _ _ _ _ _ h => h
def ExL (ts : List Ty) : Prop := ∀ t, t ∈ ts → t.Exact
theorem exl_nil : ExL [] := fun t h => by cases h
theorem exl_cons {t : Ty} {ts : List Ty} (h : t.Exact) (hr : ExL ts) : ExL (t :: ts) := fun u hu => by
 rcases List.mem_cons.1 hu with rfl | q
 ·exact h
 ·exact hr u q
def Item.Exact (it : Item) : Prop := ∀ M M' w, it.hold M w → it.hold M' w
theorem ex_row {α : Type} {v : Value} {e : TypeId} {sz : Nat} {f : α → List Ty} {l : List α} (hf : ∀ y, ExL (f y)) : (rowL v e sz f l).Exact := fun M M' w h => by
 rcases h with h | ⟨g, cap, cur, rfl, hg, h1, h2, h3, h4⟩
 ·exact .inl h
 ·refine .inr ⟨g, cap, cur, rfl, hg, h1, h2, h3, fun i es hi => ⟨(h4 i es hi).1, fun j t ht => ?_⟩⟩
  obtain ⟨u, hu, hu1, hv⟩ := (h4 i es hi).2 j t ht
  obtain ⟨y, _, rfl⟩ := List.mem_map.1 (List.mem_of_getElem? hi)
  exact ⟨u, hu, hu1, hf y t (List.mem_of_getElem? ht) _ _ _ _ _ hv⟩
theorem exI (y : Int) : ExL (lI y) := exl_cons (ex_val _) exl_nil
theorem exU (y : Int) : ExL (lU y) := exl_cons (ex_val _) exl_nil
inductive ExIts : List Item → Prop where
 | nil : ExIts []
 | cons {it : Item} {L : List Item} (h : it.Exact) (hr : ExIts L) : ExIts (it :: L)
theorem ExIts.at {L : List Item} (h : ExIts L) : ∀ it, it ∈ L → it.Exact := by
 induction h with
 | nil => intro it hi; cases hi
 | cons h _ ih =>
  intro it hi
  rcases List.mem_cons.1 hi with rfl | q
  ·exact h
  ·exact ih it q
theorem foot_nil (b : Nat) : ¬ foot [] b := fun ⟨_, h, _⟩ => by cases h
theorem front_holds {gl : Gl} {Lin Lr : List Item} {w : World} (h : Holds gl (Lin ++ Lr) w) : Holds gl (Lin ++ []) w := by
 rw [List.append_nil]
 exact (h.perm List.perm_append_comm).drop_front Lr
theorem frame_back {gl : Gl} {Lin Lo Lr : List Item} {w w' : World} (h : Holds gl (Lin ++ Lr) w) (h1 : Holds gl (Lo ++ []) w') (hl : Le (foot (Lin ++ [])) w (foot (Lo ++ [])) w') (he : ExIts Lo) :
  Holds gl (Lo ++ Lr) w' ∧ Le (foot (Lin ++ Lr)) w (foot (Lo ++ Lr)) w' := by
 rw [List.append_nil] at h1 hl
 rw [List.append_nil] at hl
 have hap := List.pairwise_append.1 h.apart
 have hLr : ∀ it, it ∈ Lr → ∀ b, it.foot b → b < w.heap.size ∧ ¬ foot Lin b := fun it hi b hb =>
  ⟨foot_lt h ⟨it, List.mem_append.2 (.inr hi), hb⟩, fun ⟨i2, h2, hb2⟩ => hap.2.2 i2 h2 it hi b hb2 hb⟩
 have hle : Le (foot (Lin ++ Lr)) w (foot (Lo ++ Lr)) w' := ⟨hl.size, hl.os, hl.tape, hl.output, fun b hb hm => by
  have h2 : ¬ foot Lin b := fun q => hm ((foot_append _ _ b).2 (.inl q))
  have h3 : ¬ foot Lr b := fun q => hm ((foot_append _ _ b).2 (.inr q))
  obtain ⟨h4, h5⟩ := hl.block b hb h2
  exact ⟨fun q => ((foot_append _ _ b).1 q).elim h4 h3, h5⟩⟩
 refine ⟨⟨fun it hi => ?_, List.pairwise_append.2 ⟨h1.apart, hap.2.1, fun a ha c hc b hb hb' => ?_⟩, fun g t hg => (h.glob g t hg).mono hle⟩, hle⟩
 ·rcases List.mem_append.1 hi with q | q
  ·exact he.at it q _ _ _ (h1.each it q)
  ·exact it.stable (h.each it (List.mem_append.2 (.inr q))) (fun b hb hf => (hl.block b hb (hLr it q b hf).2).2) hle
 ·obtain ⟨h2, h3⟩ := hLr c hc b hb'
  exact (hl.block b h2 h3).1 ⟨a, ha, hb⟩
section
variable {κ : Kx} {Q : Post} {Γ : Cx} {L : List Item} {ops : Array Oper} {rest l : List Oper}
variable {dst : Option Nat} {op : Op} {ty : TypeId} {pos : String} {after : Array Edge} {gd : Option (Nat × Bool)}
inductive ArgLend (Γ : Cx) (Lr : List Item) : List Operand → List Ty → Prop where
 | nil : ArgLend Γ Lr [] []
 | cons {x : Operand} {T B : Ty} {xs : List Operand} {Bs : List Ty} (h : opTy Γ x = some T) (hs : Sub T B) (hr : ArgLend Γ Lr xs Bs) : ArgLend Γ Lr (x :: xs) (B :: Bs)
 | lend {x : Operand} {v : Value} {e : TypeId} {sz : Nat} {ess : List (List Ty)} {xs : List Operand} {Bs : List Ty} (n : Nat) (h : opTy Γ x = some (Ty.own v)) (hi : Lr[n]? = some (Item.row v e sz ess)) (hr : ArgLend Γ Lr xs Bs) : ArgLend Γ Lr (x :: xs) (Ty.slice sz ess :: Bs)
theorem args_lend {Lr L' : List Item} {a : Act} {w : World} {M' : Fb} (hh : Holds κ.gl L' w) (he : EnvOk Γ L' a.tmps w) (hin : ∀ it, it ∈ Lr → it ∈ L') (hle : Le (foot L') w M' w) (hM : ∀ it, it ∈ Lr → ∀ b, it.foot b → ¬ M' b) :
  ∀ {xs : List Operand} {Bs : List Ty}, ArgLend Γ Lr xs Bs → ArgsOk Bs M' w (xs.toArray.map a.eval) := by
 intro xs Bs h
 induction h with
 | nil => exact ⟨by simp, fun j T hT => by simp at hT⟩
 | cons h hs _ ih =>
  refine ⟨by have := ih.1; simp at this ⊢; exact this, fun j U hU => ?_⟩
  cases j with
  | zero => cases hU; exact ⟨_, by simp, hs _ _ _ (Ty.mono _ (opTy_holds he h) hle)⟩
  | succ j =>
   obtain ⟨v, hv, h2⟩ := ih.2 j U (by simpa using hU)
   exact ⟨v, by simpa using hv, h2⟩
 | @lend x v e sz ess xs Bs n h hi _ ih =>
  refine ⟨by have := ih.1; simp at this ⊢; exact this, fun j U hU => ?_⟩
  cases j with
  | zero =>
   cases hU
   have h1 : a.eval x = v := (opTy_holds he h).1
   have hmem := List.mem_of_getElem? hi
   have hrow : RowAt v e sz ess (foot L') w := hh.each _ (hin _ hmem)
   exact ⟨v, by simp [h1], row_slice hrow hle (fun b hb => hM _ hmem b hb)⟩
  | succ j =>
   obtain ⟨v, hv, h2⟩ := ih.2 j U (by simpa using hU)
   exact ⟨v, by simpa using hv, h2⟩
theorem does_callC {it : Item} {fo : Operand} {xs : Array Operand} {tys : Array TypeId} {f : FuncId} {caps : Array Value} {As Cs Bs : List Ty} {T : Ty} (n : Nat) (hi : L[n]? = some it) (hC : CallOk κ.P κ.gl f Bs [it] Unit (fun _ => (T, [it]))) (hf : opTy Γ fo = some (Ty.val (.func (.func f) #[] caps))) (hc : ∀ args w, (callFunc f args).run κ.P w = .ok (.enter f args) w)
  (hx : xs.toList.map (opTy Γ) = As.map some) (hcs : caps.toList.map Ty.val = Cs) (hB : Bs = As ++ Cs) : Does κ ⟨dst, .call ⟨.value fo, xs, tys⟩, ty, pos, after, gd⟩ Γ L T := fun L' a w hs hh he K Q hk => by
 have e1 : a.eval fo = .func (.func f) #[] caps := opTy_holds he hf
 obtain ⟨m, hm⟩ := List.mem_iff_getElem?.1 (hs it (List.mem_of_getElem? hi))
 have hp := erase_at hm
 unfold Oper.wp
 rw [run_call e1 hc]
 subst hB
 have he' : EnvOk Γ (it :: L'.eraseIdx m) a.tmps w := he.le (le_perm hp w)
 refine (hC (L'.eraseIdx m) w _ (hh.perm hp) (args_ok he' hx hcs)).mono ?_
 rintro e w' ⟨v, _, rfl, h1, h2, h3⟩
 have hq := hp.symm
 exact hk v w' (Holds.perm h1 hq) (((le_perm hp w).trans h2).trans (le_perm hq w')) (T.mono h3 (le_perm hq w'))
theorem doesO_callZ {C : Ty → List Item → Prop} {X : Type} {Out : X → Ty × List Item} {Lin : List Item} {fo : Operand} {xs : List Operand} {tys : Array TypeId} {f : FuncId} {Bs : List Ty} (Lr : List Item) (hC : CallOk κ.P κ.gl f Bs Lin X Out) (hT : ∀ x, (Out x).1.Exact) (hE : ∀ x, ExIts (Out x).2)
  (hf : opTy Γ fo = some (Ty.val (.func (.func f) #[] #[]))) (hc : ∀ args w, (callFunc f args).run κ.P w = .ok (.enter f args) w)
  (hx : ArgLend Γ Lr xs Bs) (hL : L.Perm (Lin ++ Lr)) (h : ∀ x, C (Out x).1 ((Out x).2 ++ Lr)) :
  DoesO κ ⟨dst, .call ⟨.value fo, xs.toArray, tys⟩, ty, pos, after, gd⟩ Γ L C := fun a w s0 K Q hk => by
 have s := s0.perm hL
 have e1 : a.eval fo = .func (.func f) #[] #[] := opTy_holds s.env hf
 unfold Oper.wp
 rw [run_call e1 hc, Array.append_empty]
 have hap := List.pairwise_append.1 s.holds.apart
 have hle : Le (foot (Lin ++ Lr)) w (foot (Lin ++ [])) w := Le.of_iff w fun b hb => (foot_append _ _ b).2 (.inl (by simpa using hb))
 refine (hC [] w _ (front_holds s.holds) (args_lend s.holds s.env (fun it hi => List.mem_append.2 (.inr hi)) hle (fun it hi b hb hq => ?_) hx)).mono ?_
 ·rw [List.append_nil] at hq
  obtain ⟨i2, h2, hb2⟩ := hq
  exact hap.2.2 i2 h2 it hi b hb2 hb
 ·rintro e w' ⟨v, x, rfl, h1, h2, h3⟩
  obtain ⟨h4, h5⟩ := frame_back s.holds h1 h2 (hE x)
  exact hk _ _ _ _ h4 ((le_perm hL w).trans h5) (hT x _ _ _ _ _ h3) (h x)
theorem doesO_appendZ {C : Ty → List Item → Prop} {t e : TypeId} {z : Value} {sz bytes : Nat} {α : Type} {f : α → List Ty} {l m : List α} {s x : Operand} {v u : Value} (hE : ElTy κ.P t e z sz bytes) (Lr : List Item) (n : Nat) (r : List α) (hr : app bytes l m = some r) (hf : ∀ y, ExL (f y))
  (hs : opTy Γ s = some (Ty.own v)) (hL : L.Perm (rowL v e sz f l :: Lr)) (hx : opTy Γ x = some (Ty.own u)) (hi : Lr[n]? = some (rowL u e sz f m))
  (h : ∀ v', C (Ty.own v') (rowL v' e sz f r :: Lr)) : DoesO κ ⟨dst, .call ⟨.builtin .append, #[s, x], #[t, t]⟩, ty, pos, after, gd⟩ Γ L C :=
 doesO_run fun a w s0 => by
  have st := s0.perm hL
  have h1 : a.eval s = v := (opTy_holds st.env hs).1
  have h2 : a.eval x = u := (opTy_holds st.env hx).1
  unfold app at hr
  split at hr
  ·rename_i hb
   cases hr
   have hmem := List.mem_of_getElem? hi
   have hrow : RowAt u e sz (m.map f) (foot (rowL v e sz f l :: Lr)) w := st.holds.each _ (List.mem_cons_of_mem _ hmem)
   have hle : Le (foot (rowL v e sz f l :: Lr)) w (foot ([rowL v e sz f l] ++ [])) w := Le.of_iff w fun b hb => by
    obtain ⟨it, h3, h4⟩ := hb
    simp only [List.append_nil, List.mem_singleton] at h3
    exact ⟨it, by simp [h3], h4⟩
   have hsl : (Ty.slice sz (m.map f)).holds (foot ([rowL v e sz f l] ++ [])) w u := row_slice hrow hle (fun b hb ⟨it, h3, h4⟩ => by
    simp only [List.append_nil, List.mem_singleton] at h3
    subst h3
    exact (List.pairwise_cons.1 st.holds.apart).1 _ hmem b h4 hb)
   have hh0 : Holds κ.gl ([rowL v e sz f l] ++ Lr) w := st.holds
   obtain ⟨v', w', hrun, hh, hl, ho⟩ := run_append_row (ty := ty) hE (front_holds hh0) 0 rfl hsl (by simpa using hb.1) (by simpa using hb.2)
   obtain ⟨h4, h5⟩ := frame_back (Lo := [rowL v' e sz f (l ++ m)]) hh0 (by simpa [rowL] using hh) (by simpa [rowL] using hl) (.cons (ex_row hf) .nil)
   exact ⟨v', w', Ty.own v', rowL v' e sz f (l ++ m) :: Lr, by simp [execOp, resolve, invoke, builtin, h1, h2, hrun], h4, (le_perm hL w).trans h5, ⟨rfl, ho⟩, h v'⟩
  ·cases hr
theorem doesO_build0 {C : Ty → List Item → Prop} {t e : TypeId} {z : Value} {sz bytes : Nat} {α : Type} {f : α → List Ty} (hE : ElTy κ.P t e z sz bytes) (h : ∀ v, C (Ty.own v) (rowL v e sz f [] :: L)) : DoesO κ ⟨dst, .buildSlice t 0 #[], ty, pos, after, gd⟩ Γ L C :=
 doesO_run fun a w s => by
  have hr0 : ∀ g : Nat → Value, (Array.range 0).map g = #[] := fun g => by simp
  have hrun : (Instr.buildSlice t 0 #[]).run κ.P w = .ok (.slice (some ⟨w.heap.size, 0, none⟩) 0 0) (w.alloc (.cells #[] e)) := by
   simp [Instr.buildSlice, run_underlying hE.sl, hE.run, newRow, hr0, Instr.fill]
  have hnew := s.holds.new (i' := rowL (.slice (some ⟨w.heap.size, 0, none⟩) 0 0) e sz f []) (w' := w.alloc (.cells #[] e)) (by simp) rfl rfl rfl (fun b hb => Below.heap_alloc w _ b hb)
   (fun b hb => by have hb' : (Value.slice (some ⟨w.heap.size, 0, none⟩) 0 0).ownBlock = some b := hb; simp only [Value.ownBlock, Option.some.injEq] at hb'; omega)
   (fun M hl _ _ => .inr ⟨w.heap.size, 0, #[], by simp, heap_alloc_new w _, by simp, by simp [maxLen], by simp, fun i es hes => by simp at hes⟩)
  exact ⟨_, _, Ty.own (.slice (some ⟨w.heap.size, 0, none⟩) 0 0), _, by simp [execOp, hrun], hnew.1, hnew.2, ⟨rfl, rfl⟩, h _⟩
theorem okX_retCT {P : Program} {gl : Gl} {n : Nat} {L0 Lt : List Item} {w0 : World} {fn : Func} {X : Type} {Out : X → Ty × List Item} {t t2 g sz : Nat} {e ty : TypeId} {us : List Ty} {U : Ty} (x : X) (hr : fn.results = #[.cell t ty, .tmp t2]) (ht : Γ.look t = some (pAt g 0)) (ht2 : Γ.look t2 = some U) (i : Nat) (hi : L[i]? = some (Item.blk g e us)) (hag : ∀ w, (isAgg ty).run P w = .ok true w) (hsz : ∀ w, (sizeOf ty).run P w = .ok sz w) (hlen : us.length = sz)
  (hO : (Out x).1 = Ty.tup [Ty.agg us, U]) (D : List Item) (hL : L.Perm (D ++ ((Out x).2 ++ Lt))) : OkX ⟨P, gl, n, L0, w0⟩ (bodyPost P fn (RetP gl L0 w0 Lt Out)) .ret Γ L := fun a w s => by
 have h1 : a.tmps.getD t undef = .pointer (some ⟨g, 0, none⟩) := s.env t _ ht
 obtain ⟨cs, hg, ha⟩ : BlkAt g e us (foot L) w := s.holds.each _ (List.mem_of_getElem? hi)
 obtain ⟨vs, h2, h3, h4⟩ := cells_of (us := us) (M := foot L) (o := 0) hg (fun j T hj => by rw [Nat.zero_add]; exact ha.2 j T hj)
 have hrun := run_loadCells_list (P := P) w ⟨g, 0, none⟩ vs h3
 rw [h2, hlen] at hrun
 have hres : (results fn a.tmps).run P w = .ok (.tuple #[.agg vs.toArray, a.tmps.getD t2 undef]) w := by
  have h1' : a.tmps[t]?.getD undef = .pointer (some ⟨g, 0, none⟩) := by rw [← Array.getD_eq_getD_getElem?]; exact h1
  simp [results, hr, h1', asAddr, loadVar, hag, hsz, hrun]
 have s2 := s.keep D hL
 refine ⟨s.defers, _, hres, _, x, rfl, s2.holds, s2.le, ?_⟩
 rw [hO]
 have hle : Le (foot L) w (foot ((Out x).2 ++ Lt)) w := by
  refine Le.of_iff w fun b hb => ?_
  exact (foot_perm hL b).2 ((foot_append _ _ b).2 (.inr hb))
 refine ⟨_, rfl, rfl, fun j V hV => ?_⟩
 match j with
 | 0 => cases hV; exact ⟨_, rfl, vs.toArray, rfl, h4.mono hle⟩
 | 1 => cases hV; exact ⟨_, rfl, s2.env t2 _ ht2⟩
 | j + 2 => simp at hV
end
end Go.Proofs.YtocfnpnnbmicmaaDoor.Tc
end
section
set_option linter.unusedVariables false
set_option linter.unusedSimpArgs false
namespace Go.Proofs.YtocfnpnnbmicmaaDoor.Tc
open Go Go.RowKit
def Ty.any : Ty := ⟨fun _ _ v => v.oneCell' = true, fun h _ => h⟩
theorem sub_any {T : Ty} (h : T.One) : Sub T Ty.any := h
section
variable {κ : Kx} {Q : Post} {Γ : Cx} {L : List Item} {ops : Array Oper} {rest l : List Oper} {hs : Hs}
variable {dst : Option Nat} {op : Op} {ty : TypeId} {pos : String} {after : Array Edge} {gd : Option (Nat × Bool)}
theorem DoesO.more {o : Oper} {C C' : Ty → List Item → Prop} (h : DoesO κ o Γ L C) (hc : ∀ T L', C T L' → C' T L') : DoesO κ o Γ L C' := fun a w s K Q hk =>
 h a w s K Q fun v w' T L' h1 h2 h3 h4 => hk v w' T L' h1 h2 h3 (hc T L' h4)
theorem AllP.more {α : Type} {P P' : α → Prop} (hc : ∀ x, P x → P' x) : ∀ {l : List α}, AllP P l → AllP P' l
 | [], _ => trivial
 | _ :: _, h => ⟨hc _ h.1, AllP.more hc h.2⟩
theorem chain_more {Ls : Two} {F F' : Cx → List Item → Prop} (hF : ∀ Γc L', F Γc L' → F' Γc L') : ∀ (f : Nat) (rem : List Nat) (Γc : Cx) (L : List Item), Chain κ l hs Γ Ls F f rem Γc L → Chain κ l hs Γ Ls F' f rem Γc L
 | 0, _, _, _, h => hF _ _ h
 | f + 1, rem, Γc, L, ⟨ns, hn, h⟩ => ⟨ns, hn, AllP.more (fun p ⟨o, h1, h2, h3⟩ => ⟨o, h1, h2, h3.more fun T L' ⟨h4, h5⟩ => ⟨h4, chain_more hF f _ _ _ h5⟩⟩) h⟩
theorem chain_meet {X : Type} {Ls : Two} {f : Nat} {rem : List Nat} {Γc : Cx} (G : X → Cx) (Lf : X → List Item) (hy : ∀ x, OkL κ ops Q rest (G x) (Lf x))
  (h : Chain κ l hs Γ Ls (fun Γc L' => ∃ x, Cov (zipH (Γc ++ Γ) hs) (G x) ∧ L'.Perm (Lf x)) f rem Γc L) : Chain κ l hs Γ Ls (fun Γc L' => OkL κ ops Q rest (zipH (Γc ++ Γ) hs) L') f rem Γc L :=
 chain_more (fun Γc L' ⟨x, hc, hp⟩ => fun a w s => hy x a w ((s.perm hp).cov hc)) _ _ _ _ h
end
structure ItEq (A B : List Item) : Prop where
 same : ∀ b, foot A b ↔ foot B b
 keep : ∀ gl R w, Holds gl (A ++ R) w → Holds gl (B ++ R) w
theorem ItEq.le {A B : List Item} (h : ItEq A B) (R : List Item) (w : World) : Le (foot (A ++ R)) w (foot (B ++ R)) w := Le.of_iff w fun b hb => by
 rcases (foot_append _ _ b).1 hb with q | q
 ·exact (foot_append _ _ b).2 (.inl ((h.same b).2 q))
 ·exact (foot_append _ _ b).2 (.inr q)
theorem Sat.iteq {κ : Kx} {Γ : Cx} {A B R : List Item} {a : Act} {w : World} (h : ItEq A B) (s : Sat κ Γ (A ++ R) a w) : Sat κ Γ (B ++ R) a w :=
 ⟨s.defers, s.size, h.keep _ _ _ s.holds, s.le.trans (h.le R w), s.env.le (h.le R w)⟩
abbrev Apart (us : List Value) : Prop := us.Pairwise (fun a b => ∀ x, a.ownBlock = some x → b.ownBlock = some x → False)
structure RowsAt (us : List Value) (e : TypeId) (sz : Nat) (lss : List (List (List Ty))) (M : Fb) (w : World) : Prop where
 len : us.length = lss.length
 row : ∀ (i : Nat) (u : Value) (ess : List (List Ty)), us[i]? = some u → lss[i]? = some ess → RowAt u e sz ess M w
 apart : Apart us
def Item.rows (us : List Value) (e : TypeId) (sz : Nat) (lss : List (List (List Ty))) : Item :=
  ⟨fun b => ∃ u, u ∈ us ∧ u.ownBlock = some b, RowsAt us e sz lss,
   fun h ⟨u, hu, hb⟩ => by
    obtain ⟨i, hi⟩ := List.mem_iff_getElem?.1 hu
    have hl : i < lss.length := by rw [← h.len]; exact (List.getElem?_eq_some_iff.1 hi).1
    exact (Item.row u e sz _).lt (h.row i u _ hi (List.getElem?_eq_getElem hl)) hb,
   fun h hk hl => ⟨h.len, fun i u ess hu he => (Item.row u e sz ess).stable (h.row i u ess hu he) (fun b hb hf => hk b hb ⟨u, List.mem_of_getElem? hu, hf⟩) hl, h.apart⟩⟩
abbrev rowsL {α : Type} (us : List Value) (e : TypeId) (sz : Nat) (f : α → List Ty) (ls : List (List α)) : Item := Item.rows us e sz (ls.map (·.map f))
def lO (u : Value) : List Ty := [Ty.own u]
theorem perm_at {α : Type} {l : List α} {n : Nat} {x : α} (h : l[n]? = some x) : l.Perm (x :: l.eraseIdx n) := by
 induction l generalizing n with
 | nil => simp at h
 | cons y l ih =>
  cases n with
  | zero => simp at h; subst h; exact List.Perm.refl _
  | succ n => exact ((ih (by simpa using h)).cons y).trans (List.Perm.swap _ _ _)
theorem apart_sym {a b : Value} (h : ∀ x, a.ownBlock = some x → b.ownBlock = some x → False) : ∀ x, b.ownBlock = some x → a.ownBlock = some x → False := fun x hx hy => h x hy hx
theorem apart_perm {us vs : List Value} (h : Apart us) (hp : us.Perm vs) : Apart vs := (hp.pairwise_iff (fun {a b} hab => apart_sym hab)).1 h
theorem get_erase {α : Type} (l : List α) (i j : Nat) (h : j ≠ i) : l[j]? = (l.eraseIdx i)[if j < i then j else j - 1]? := by
 rw [List.getElem?_eraseIdx]
 by_cases hj : j < i
 ·simp [hj]
 ·have h1 : ¬ (j - 1 < i) := by omega
  have h2 : j - 1 + 1 = j := by omega
  simp [hj, h1, h2]
theorem open_eq {us : List Value} {e : TypeId} {sz : Nat} {lss : List (List (List Ty))} {i : Nat} {u : Value} {ess : List (List Ty)} (hu : us[i]? = some u) (he : lss[i]? = some ess) :
  ItEq [Item.rows us e sz lss] [Item.row u e sz ess, Item.rows (us.eraseIdx i) e sz (lss.eraseIdx i)] := by
 have hp := perm_at hu
 have hf : ∀ b, (Item.rows us e sz lss).foot b ↔ (Item.row u e sz ess).foot b ∨ (Item.rows (us.eraseIdx i) e sz (lss.eraseIdx i)).foot b := fun b => by
  constructor
  ·rintro ⟨v, hv, hb⟩
   rcases List.mem_cons.1 (hp.mem_iff.1 hv) with rfl | q
   ·exact .inl hb
   ·exact .inr ⟨v, q, hb⟩
  ·rintro (hb | ⟨v, hv, hb⟩)
   ·exact ⟨u, List.mem_of_getElem? hu, hb⟩
   ·exact ⟨v, hp.mem_iff.2 (List.mem_cons_of_mem _ hv), hb⟩
 have hfl : ∀ b, foot [Item.rows us e sz lss] b ↔ foot [Item.row u e sz ess, Item.rows (us.eraseIdx i) e sz (lss.eraseIdx i)] b := fun b => by
  simp only [foot_cons, hf b, or_assoc]
 refine ⟨hfl, fun gl R w h => ?_⟩
 have hle : Le (foot ([Item.rows us e sz lss] ++ R)) w (foot ([Item.row u e sz ess, Item.rows (us.eraseIdx i) e sz (lss.eraseIdx i)] ++ R)) w := Le.of_iff w fun b hb => by
  rcases (foot_append _ _ b).1 hb with q | q
  ·exact (foot_append _ _ b).2 (.inl ((hfl b).2 q))
  ·exact (foot_append _ _ b).2 (.inr q)
 have hr : RowsAt us e sz lss (foot ([Item.rows us e sz lss] ++ R)) w := h.each (Item.rows us e sz lss) (by simp)
 have hap := List.pairwise_cons.1 h.apart
 have hrow : RowAt u e sz ess (foot ([Item.row u e sz ess, Item.rows (us.eraseIdx i) e sz (lss.eraseIdx i)] ++ R)) w := (Item.row u e sz ess).stable (hr.row i u ess hu he) (fun _ _ _ => rfl) hle
 have hap2 := List.pairwise_cons.1 (apart_perm hr.apart hp)
 have hrows : RowsAt (us.eraseIdx i) e sz (lss.eraseIdx i) (foot ([Item.row u e sz ess, Item.rows (us.eraseIdx i) e sz (lss.eraseIdx i)] ++ R)) w := by
  have hiu := (List.getElem?_eq_some_iff.1 hu).1
  refine ⟨by rw [List.length_eraseIdx, List.length_eraseIdx, hr.len], fun j v vs hv hvs => ?_, hap2.2⟩
  rw [List.getElem?_eraseIdx] at hv hvs
  by_cases hj : j < i
  ·rw [if_pos hj] at hv hvs
   exact (Item.row v e sz vs).stable (hr.row j v vs hv hvs) (fun _ _ _ => rfl) hle
  ·rw [if_neg hj] at hv hvs
   exact (Item.row v e sz vs).stable (hr.row (j + 1) v vs hv hvs) (fun _ _ _ => rfl) hle
 refine ⟨fun it hi => ?_, List.pairwise_cons.2 ⟨fun it hi b hb hb' => ?_, List.pairwise_cons.2 ⟨fun it hi b hb hb' => ?_, hap.2⟩⟩, fun g t hg => (h.glob g t hg).mono hle⟩
 ·rcases List.mem_cons.1 hi with rfl | hi
  ·exact hrow
  ·rcases List.mem_cons.1 hi with rfl | hi
   ·exact hrows
   ·exact it.stable (h.each it (List.mem_cons_of_mem _ hi)) (fun _ _ _ => rfl) hle
 ·rcases List.mem_cons.1 hi with rfl | hi
  ·obtain ⟨v, hv, hb2⟩ := hb'
   exact hap2.1 v hv b hb hb2
  ·exact hap.1 it hi b ((hf b).2 (.inl hb)) hb'
 ·exact hap.1 it hi b ((hf b).2 (.inr hb)) hb'
theorem close_eq {us : List Value} {e : TypeId} {sz : Nat} {lss : List (List (List Ty))} {i : Nat} {u : Value} {ess : List (List Ty)} (hi : i < us.length) (hi2 : i < lss.length) :
  ItEq [Item.row u e sz ess, Item.rows (us.eraseIdx i) e sz (lss.eraseIdx i)] [Item.rows (us.set i u) e sz (lss.set i ess)] := by
 have hget : (us.set i u)[i]? = some u := by simp [hi]
 have her : (us.set i u).eraseIdx i = us.eraseIdx i := by
  apply List.ext_getElem?; intro j
  simp only [List.getElem?_eraseIdx, List.getElem?_set]
  by_cases hj : j < i
  ·have : i ≠ j := by omega
   simp [hj, this]
  ·have : i ≠ j + 1 := by omega
   simp [hj, this]
 have hp := perm_at hget
 rw [her] at hp
 have hf : ∀ b, (Item.rows (us.set i u) e sz (lss.set i ess)).foot b ↔ (Item.row u e sz ess).foot b ∨ (Item.rows (us.eraseIdx i) e sz (lss.eraseIdx i)).foot b := fun b => by
  constructor
  ·rintro ⟨v, hv, hb⟩
   rcases List.mem_cons.1 (hp.mem_iff.1 hv) with rfl | q
   ·exact .inl hb
   ·exact .inr ⟨v, q, hb⟩
  ·rintro (hb | ⟨v, hv, hb⟩)
   ·exact ⟨u, hp.mem_iff.2 (by simp), hb⟩
   ·exact ⟨v, hp.mem_iff.2 (List.mem_cons_of_mem _ hv), hb⟩
 have hfl : ∀ b, foot [Item.row u e sz ess, Item.rows (us.eraseIdx i) e sz (lss.eraseIdx i)] b ↔ foot [Item.rows (us.set i u) e sz (lss.set i ess)] b := fun b => by
  simp only [foot_cons, hf b, or_assoc]
 refine ⟨hfl, fun gl R w h => ?_⟩
 have hle : Le (foot ([Item.row u e sz ess, Item.rows (us.eraseIdx i) e sz (lss.eraseIdx i)] ++ R)) w (foot ([Item.rows (us.set i u) e sz (lss.set i ess)] ++ R)) w := Le.of_iff w fun b hb => by
  rcases (foot_append _ _ b).1 hb with q | q
  ·exact (foot_append _ _ b).2 (.inl ((hfl b).2 q))
  ·exact (foot_append _ _ b).2 (.inr q)
 have hrow : RowAt u e sz ess (foot ([Item.row u e sz ess, Item.rows (us.eraseIdx i) e sz (lss.eraseIdx i)] ++ R)) w := h.each (Item.row u e sz ess) (by simp)
 have hrows : RowsAt (us.eraseIdx i) e sz (lss.eraseIdx i) (foot ([Item.row u e sz ess, Item.rows (us.eraseIdx i) e sz (lss.eraseIdx i)] ++ R)) w := h.each (Item.rows (us.eraseIdx i) e sz (lss.eraseIdx i)) (by simp)
 have hap := List.pairwise_cons.1 h.apart
 have hap2 := List.pairwise_cons.1 hap.2
 have hlen : us.length = lss.length := by
  have := hrows.len
  rw [List.length_eraseIdx, List.length_eraseIdx, if_pos hi, if_pos hi2] at this
  omega
 refine ⟨fun it hit => ?_, List.pairwise_cons.2 ⟨fun it hit b hb hb' => ?_, hap2.2⟩, fun g t hg => (h.glob g t hg).mono hle⟩
 ·rcases List.mem_cons.1 hit with rfl | hit
  ·have hl2 : (us.set i u).length = (lss.set i ess).length := by simp [hlen]
   refine ⟨hl2, fun j v vs hv hvs => ?_, apart_perm (us := u :: us.eraseIdx i) (List.pairwise_cons.2 ⟨fun v hv b hb hb' => ?_, hrows.apart⟩) hp.symm⟩
   ·by_cases hji : j = i
    ·subst hji
     rw [hget] at hv; cases hv
     have hjl : j < lss.length := by
      have := (List.getElem?_eq_some_iff.1 hvs).1
      simpa using this
     have : (lss.set j ess)[j]? = some ess := by simp [hjl]
     rw [this] at hvs; cases hvs
     exact (Item.row u e sz ess).stable hrow (fun _ _ _ => rfl) hle
    ·rw [List.getElem?_set_ne (fun q => hji q.symm), get_erase us i j hji] at hv
     rw [List.getElem?_set_ne (fun q => hji q.symm), get_erase lss i j hji] at hvs
     exact (Item.row v e sz vs).stable (hrows.row _ v vs hv hvs) (fun _ _ _ => rfl) hle
   ·exact hap.1 (Item.rows (us.eraseIdx i) e sz (lss.eraseIdx i)) (by simp) b hb ⟨v, hv, hb'⟩
  ·exact it.stable (h.each it (by simp; exact .inr (.inr hit))) (fun _ _ _ => rfl) hle
 ·rcases (hf b).1 hb with q | q
  ·exact hap.1 it (List.mem_cons_of_mem _ hit) b q hb'
  ·exact hap2.1 it hit b q hb'
section
variable {κ : Kx} {Q : Post} {Γ : Cx} {L R : List Item} {ops : Array Oper} {rest l : List Oper}
variable {dst : Option Nat} {op : Op} {ty : TypeId} {pos : String} {after : Array Edge} {gd : Option (Nat × Bool)}
section
variable {α : Type} {us : List Value} {e : TypeId} {sz : Nat} {f : α → List Ty} {ls : List (List α)}
theorem map_set_rows (f : α → List Ty) (ls : List (List α)) (i : Nat) (y : List α) : (ls.map (·.map f)).set i (y.map f) = (ls.set i y).map (·.map f) := by
 rw [List.map_set]
theorem map_erase_rows (f : α → List Ty) (ls : List (List α)) (i : Nat) : (ls.map (·.map f)).eraseIdx i = (ls.eraseIdx i).map (·.map f) := by
 apply List.ext_getElem?; intro j
 simp only [List.getElem?_eraseIdx, List.getElem?_map]
 split <;> rfl
theorem Sat.openR {a : Act} {w : World} {m : Int} {y : List α} (hl : idx ls m = some y) (hp : L.Perm (rowsL us e sz f ls :: R)) (s : Sat κ Γ L a w) : ∃ u, idx us m = some u ∧ Sat κ Γ (rowL u e sz f y :: rowsL (us.eraseIdx m.toNat) e sz f (ls.eraseIdx m.toNat) :: R) a w := by
 have s1 := s.perm hp
 obtain ⟨h0, h1, h2⟩ := idx_some hl
 have hr : RowsAt us e sz (ls.map (·.map f)) (foot (rowsL us e sz f ls :: R)) w := s1.holds.each (rowsL us e sz f ls) (by simp)
 have hlen := hr.len
 rw [List.length_map] at hlen
 have hu : us[m.toNat]? = some (us[m.toNat]'(by omega)) := List.getElem?_eq_getElem (by omega)
 refine ⟨_, by unfold idx; rw [if_pos h0]; exact hu, ?_⟩
 have := Sat.iteq (R := R) (open_eq (e := e) (sz := sz) (lss := ls.map (·.map f)) hu (ess := y.map f) (by simp [h2])) s1
 rw [map_erase_rows] at this
 exact this
theorem Sat.closeR {a : Act} {w : World} {m : Int} {y y' : List α} {u u' : Value} (hl : idx ls m = some y) (hu : idx us m = some u) (hp : L.Perm (rowL u' e sz f y' :: rowsL (us.eraseIdx m.toNat) e sz f (ls.eraseIdx m.toNat) :: R)) (s : Sat κ Γ L a w) : Sat κ Γ (rowsL (us.set m.toNat u') e sz f (ls.set m.toNat y') :: R) a w := by
 have s1 := s.perm hp
 obtain ⟨h0, h1, h2⟩ := idx_some hl
 obtain ⟨_, h3, _⟩ := idx_some hu
 have hq := close_eq (us := us) (e := e) (sz := sz) (lss := ls.map (·.map f)) (i := m.toNat) (u := u') (ess := y'.map f) (by omega) (by simp; omega)
 rw [map_set_rows, map_erase_rows] at hq
 exact Sat.iteq (R := R) hq s1
theorem set_same {us : List Value} {m : Int} {u : Value} (hu : idx us m = some u) : us.set m.toNat u = us := by
 obtain ⟨_, _, h⟩ := idx_some hu
 apply List.ext_getElem?; intro j
 rw [List.getElem?_set]
 split
 ·rename_i hj; subst hj; rw [h]; split <;> simp_all
 ·rfl
theorem okL_open {m : Int} {y : List α} (hl : idx ls m = some y) (hp : L.Perm (rowsL us e sz f ls :: R)) (h : ∀ u, idx us m = some u → OkL κ ops Q rest Γ (rowL u e sz f y :: rowsL (us.eraseIdx m.toNat) e sz f (ls.eraseIdx m.toNat) :: R)) : OkL κ ops Q rest Γ L := fun a w s => by
 obtain ⟨u, hu, s2⟩ := s.openR hl hp
 exact h u hu a w s2
theorem okC_open {c : Code} {m : Int} {y : List α} (hl : idx ls m = some y) (hp : L.Perm (rowsL us e sz f ls :: R)) (h : ∀ u, idx us m = some u → OkC κ c Q Γ (rowL u e sz f y :: rowsL (us.eraseIdx m.toNat) e sz f (ls.eraseIdx m.toNat) :: R)) : OkC κ c Q Γ L := fun a w s => by
 obtain ⟨u, hu, s2⟩ := s.openR hl hp
 exact h u hu a w s2
theorem okL_close {m : Int} {y y' : List α} {u : Value} (hl : idx ls m = some y) (hu : idx us m = some u) (hp : L.Perm (rowL u e sz f y' :: rowsL (us.eraseIdx m.toNat) e sz f (ls.eraseIdx m.toNat) :: R)) (h : OkL κ ops Q rest Γ (rowsL us e sz f (ls.set m.toNat y') :: R)) : OkL κ ops Q rest Γ L := fun a w s => by
 have s2 := s.closeR hl hu hp
 rw [set_same hu] at s2
 exact h a w s2
theorem okL_close2 {m : Int} {y y' : List α} {u u' : Value} (hl : idx ls m = some y) (hu : idx us m = some u) (hp : L.Perm (rowL u' e sz f y' :: rowsL (us.eraseIdx m.toNat) e sz f (ls.eraseIdx m.toNat) :: R)) (h : OkL κ ops Q rest Γ (rowsL (us.set m.toNat u') e sz f (ls.set m.toNat y') :: R)) : OkL κ ops Q rest Γ L := fun a w s => h a w (s.closeR hl hu hp)
theorem rows_len {a : Act} {w : World} (n : Nat) (hi : L[n]? = some (rowsL us e sz f ls)) (s : Sat κ Γ L a w) : us.length = ls.length := by
 have hr : RowsAt us e sz (ls.map (·.map f)) (foot L) w := s.holds.each _ (List.mem_of_getElem? hi)
 have := hr.len
 rwa [List.length_map] at this
theorem okL_rowsLen (n : Nat) (hi : L[n]? = some (rowsL us e sz f ls)) (h : us.length = ls.length → OkL κ ops Q rest Γ L) : OkL κ ops Q rest Γ L := fun a w s => h (rows_len n hi s) a w s
theorem okC_rowsLen {c : Code} (n : Nat) (hi : L[n]? = some (rowsL us e sz f ls)) (h : us.length = ls.length → OkC κ c Q Γ L) : OkC κ c Q Γ L := fun a w s => h (rows_len n hi s) a w s
theorem nilrows (n e sz : Nat) (f : α → List Ty) (M : Fb) (w : World) : (rowsL (List.replicate n (.slice none 0 0)) e sz f (List.replicate n [])).hold M w :=
  ⟨by simp, fun i u ess hu he => by
    have h1 : u = .slice none 0 0 := List.eq_of_mem_replicate (List.mem_of_getElem? hu)
    simp only [List.map_replicate, List.map_nil] at he
    have h2 : ess = [] := List.eq_of_mem_replicate (List.mem_of_getElem? he)
    exact .inl ⟨h1, h2⟩,
   List.pairwise_replicate.2 (.inr fun x hx => by simp [Value.ownBlock] at hx)⟩
theorem doesO_makeM {C : Ty → List Item → Prop} {t e2 : TypeId} {bytes : Nat} {n1 n2 : Operand} {k1 k2 : IntKind} {m : Int} (f : α → List Ty) (e sz : Nat) (hE : ElTy κ.P t e2 (.slice none 0 0) 1 bytes) (r : List (List α)) (hr : mk bytes m [] = some r) (h1 : opTy Γ n1 = some (tK k1 m)) (h2 : opTy Γ n2 = some (tK k2 m))
  (h : ∀ v us, C (Ty.own v) (rowL v e2 1 lO us :: rowsL us e sz f r :: L)) : DoesO κ ⟨dst, .makeSlice t n1 n2, ty, pos, after, gd⟩ Γ L C := by
 have hr' : mk bytes m (Value.slice none 0 0) = some (List.replicate m.toNat (.slice none 0 0)) ∧ r = List.replicate m.toNat [] := by
  unfold mk at hr ⊢
  split at hr
  ·cases hr; rename_i hb; rw [if_pos hb]; exact ⟨rfl, rfl⟩
  ·cases hr
 have hz : PartTy (Ty.val (.slice none 0 0)) (lO (.slice none 0 0)) := part_sub (part_one (one_val rfl)) (.cons (fun _ _ v hv => by cases hv; exact ⟨rfl, rfl⟩) .nil)
 intro a w s K Q hk
 refine doesO_make (f := lO) (Γ := Γ) (L := L) (C := fun T L' => ∃ v, T = Ty.own v ∧ L' = rowL v e2 1 lO (List.replicate m.toNat (.slice none 0 0)) :: L) hE (.slice none 0 0) _ hr'.1 h1 h2 hz (fun v => ⟨v, rfl, rfl⟩) a w s K Q ?_
 rintro v w' T L' hh hl hv ⟨u, rfl, rfl⟩
 have hn := Holds.new (i' := rowsL (List.replicate m.toNat (.slice none 0 0)) e sz f r) hh (Nat.le_refl _) rfl rfl rfl (fun _ _ => rfl) (fun b ⟨x, hx, hb⟩ => by
  rw [List.eq_of_mem_replicate hx] at hb; simp [Value.ownBlock] at hb) (fun M _ _ _ => by rw [hr'.2]; exact nilrows _ _ _ _ _ _)
 have hp : (rowsL (List.replicate m.toNat (.slice none 0 0)) e sz f r :: rowL u e2 1 lO (List.replicate m.toNat (.slice none 0 0)) :: L).Perm (rowL u e2 1 lO (List.replicate m.toNat (.slice none 0 0)) :: rowsL (List.replicate m.toNat (.slice none 0 0)) e sz f r :: L) := List.Perm.swap _ _ _
 exact hk v w' _ _ (hn.1.perm hp) ((hl.trans hn.2).trans (le_perm hp w')) hv (h u _)
theorem Sat.publishM {a : Act} {w : World} {v : Value} {e2 : TypeId} (ts : List Nat) (hp : L.Perm (rowL v e2 1 lO us :: rowsL us e sz f ls :: R)) (ht : AllOwn Γ v ts) (s : Sat κ Γ L a w) : Sat κ (retype (Ty.slice 1 (ls.map fun l => [Ty.slice sz (l.map f)])) ts Γ) R a w := by
 have s1 := s.perm hp
 have hap := List.pairwise_cons.1 s1.holds.apart
 have hap2 := List.pairwise_cons.1 hap.2
 have hle : Le (foot (rowL v e2 1 lO us :: rowsL us e sz f ls :: R)) w (foot R) w := Le.of_iff w fun b hb => (foot_cons _ _ b).2 (.inr ((foot_cons _ _ b).2 (.inr hb)))
 have hout : RowAt v e2 1 (us.map lO) (foot (rowL v e2 1 lO us :: rowsL us e sz f ls :: R)) w := s1.holds.each (rowL v e2 1 lO us) (by simp)
 have hin : RowsAt us e sz (ls.map (·.map f)) (foot (rowL v e2 1 lO us :: rowsL us e sz f ls :: R)) w := s1.holds.each (rowsL us e sz f ls) (by simp)
 have hlen := hin.len
 rw [List.length_map] at hlen
 have hsl : (Ty.slice 1 (ls.map fun l => [Ty.slice sz (l.map f)])).holds (foot R) w v := by
  rcases hout with ⟨rfl, h0⟩ | ⟨g, cap, cur, rfl, hg, h1, h2, h3, h4⟩
  ·have : us = [] := by simpa using h0
   subst this
   have : ls = [] := List.eq_nil_of_length_eq_zero (by simpa using hlen.symm)
   subst this
   exact ⟨none, 0, rfl, Nat.le_refl _, fun i es hi => by simp at hi⟩
  ·simp only [List.length_map] at h1
   refine ⟨some ⟨g, 0, none⟩, cap, by simp [hlen], by simp; omega, fun i es hi => ?_⟩
   simp only [List.getElem?_map, Option.map_eq_some_iff] at hi
   obtain ⟨y, hy, rfl⟩ := hi
   refine ⟨rfl, _, rfl, fun j T hT => ⟨?_, ?_⟩⟩
   ·rw [add_block]
    rintro ⟨it, hit, hf⟩
    exact hap.1 it (List.mem_cons_of_mem _ hit) g rfl hf
   ·have hiu : i < us.length := by rw [hlen]; exact (List.getElem?_eq_some_iff.1 hy).1
    obtain ⟨_, h6⟩ := h4 i (lO us[i]) (by simp [hiu])
    have hj : j = 0 := by
     have := (List.getElem?_eq_some_iff.1 hT).1
     simp at this; exact this
    subst hj
    cases hT
    obtain ⟨u, hu, hu1, hu2⟩ := h6 0 (Ty.own us[i]) rfl
    have hu3 : u = us[i] := hu2.1
    subst hu3
    refine ⟨us[i], by rw [add_add, add_lit, blk_cell hg, Nat.zero_add]; exact hu, hu1, ?_⟩
    exact row_slice (hin.row i us[i] _ (List.getElem?_eq_getElem hiu) (by simp [hy])) hle (fun b hb ⟨it, hit, hf⟩ => hap2.1 it hit b ⟨us[i], List.getElem_mem hiu, hb⟩ hf)
 refine ⟨s1.defers, s1.size, s1.holds.tail.tail, s1.le.trans hle, env_retype ts (fun t h => ?_) (s1.env.le hle)⟩
 have := (s1.env t _ (ht.at t h)).1
 rw [this]
 exact hsl
theorem okX_publishM {c : Exit} {v : Value} {e2 : TypeId} (ts : List Nat) (hp : L.Perm (rowL v e2 1 lO us :: rowsL us e sz f ls :: R)) (ht : AllOwn Γ v ts) (h : OkX κ Q c (retype (Ty.slice 1 (ls.map fun l => [Ty.slice sz (l.map f)])) ts Γ) R) : OkX κ Q c Γ L := fun a w s => h a w (s.publishM ts hp ht)
end
def Ty.srow (v : Value) (o : Nat) : Ty := ⟨fun _ _ u => ∃ g n c, v = .slice (some ⟨g, 0, none⟩) n c ∧ u = .slice (some ⟨g, if c = o then 0 else o, none⟩) (n - o) (c - o), fun h _ => h⟩
section
variable {α : Type} {f : α → List Ty} {l : List α} {t e : TypeId} {x : Operand} {v : Value}
theorem does_subLoR {lo : Operand} {k : IntKind} {m : Int} (n : Nat) (r : List α) (hr : subLo l m = some r) (h0 : (!l.isEmpty) = true) (hu : κ.P.underlying t = some (.slice e)) (hsz : ∀ w, (sizeOf e).run κ.P w = .ok 1 w) (hx : opTy Γ x = some (Ty.own v)) (hi : L[n]? = some (rowL v e 1 f l)) (hl : opTy Γ lo = some (tK k m)) :
  Does κ ⟨dst, .slice t x (some lo) none none, ty, pos, after, gd⟩ Γ L (Ty.srow v m.toNat) :=
 does_of_run fun L' a w hs hh he => by
  have h1 : a.eval x = v := (opTy_holds he hx).1
  have hm : a.eval lo = .int k m := opTy_holds he hl
  have hrow : RowAt v e 1 (l.map f) (foot L') w := hh.each _ (hs _ (List.mem_of_getElem? hi))
  rcases hrow with ⟨rfl, h2⟩ | ⟨g, cap, cur, rfl, hg, h6, h7, h8, h9⟩
  ·have : l = [] := by simpa using h2
   subst this; cases h0
  ·unfold subLo at hr
   split at hr
   ·rename_i hb
    simp only [List.length_map] at h1 h6
    by_cases hc : cap = m.toNat
    ·refine ⟨.slice (some ⟨g, 0, none⟩) (l.length - m.toNat) (cap - m.toNat), ?_, g, _, _, rfl, by simp [hc]⟩
     simp [execOp, h1, hm, Instr.sliceAt, Instr.slice, run_underlying hu, Instr.sliceBounds, Instr.sliceBound, asIntOf, hb.1, hb.2, hsz, hc]
    ·refine ⟨.slice (some ⟨g, m.toNat, none⟩) (l.length - m.toNat) (cap - m.toNat), ?_, g, _, _, rfl, by simp [hc]⟩
     simp [execOp, h1, hm, Instr.sliceAt, Instr.slice, run_underlying hu, Instr.sliceBounds, Instr.sliceBound, asIntOf, hb.1, hb.2, hsz, hc, add_lit]
   ·cases hr
def cpy {α : Type} (l : List α) (i j : Nat) : List α := l.take i ++ (l.drop j).take (min (l.length - j) (l.length - i)) ++ l.drop (i + min (l.length - j) (l.length - i))
theorem doesO_copyR {C : Ty → List Item → Prop} {bytes : Nat} {z : Value} {y : Operand} {i j : Nat} (n : Nat) (r : List α) (L' : List Item) (hr : r = cpy l i j) (hij : (decide (i ≤ l.length) && decide (j ≤ l.length)) = true) (hE : ElTy κ.P t e z 1 bytes) (hx : opTy Γ x = some (Ty.srow v i)) (hy : opTy Γ y = some (Ty.srow v j)) (hi : L[n]? = some (rowL v e 1 f l))
  (hL : L' = L.set n (rowL v e 1 f r)) (h : C (tI (min (l.length - j) (l.length - i) : Nat)) L') : DoesO κ ⟨dst, .call ⟨.builtin .copy, #[x, y], #[t, t]⟩, ty, pos, after, gd⟩ Γ L C :=
 doesO_run fun a w s => by
  subst hr hL
  obtain ⟨g, n1, c1, hv, h1⟩ := opTy_holds s.env hx
  obtain ⟨g2, n2, c2, hv2, h2⟩ := opTy_holds s.env hy
  rw [hv] at hv2; cases hv2
  simp only [Bool.and_eq_true, decide_eq_true_eq] at hij
  have hrow : RowAt v e 1 (l.map f) (foot L) w := s.holds.each _ (List.mem_of_getElem? hi)
  rcases hrow with ⟨rfl, _⟩ | ⟨g', cap, cur, hv', hg, h6, h7, h8, h9⟩
  ·cases hv
  ·rw [hv'] at hv; cases hv
   simp only [List.length_map, Nat.mul_one] at h1 h2 h6 h8
   have hsz : (κ.P.info? e).map (·.size) = some 1 := by
    obtain ⟨q, hq, _, h3, _⟩ := hE.info
    simp [hq, h3]
   generalize hmm : min (l.length - j) (l.length - i) = mm at h ⊢
   -- what is copied
   have hcs1 : ∀ k u, ((cur.toList.drop j).take mm)[k]? = some u → k < mm ∧ cur[j + k]? = some u := fun k u hu => by
    rw [List.getElem?_take] at hu
    split at hu
    ·rw [List.getElem?_drop] at hu; exact ⟨by assumption, by simpa using hu⟩
    ·cases hu
   have hlen : ((cur.toList.drop j).take mm).length = mm := by simp; omega
   have hel1 : ∀ k, k < l.length → ∃ u, cur[k]? = some u ∧ u.oneCell' = true := fun k hk => by
    obtain ⟨h10, h11⟩ := h9 k (f l[k]) (by simp [hk])
    obtain ⟨T, hT⟩ : ∃ T, (f l[k])[0]? = some T := ⟨(f l[k])[0]'(by omega), List.getElem?_eq_getElem _⟩
    obtain ⟨u, hu, hu1, _⟩ := h11 0 T hT
    exact ⟨u, by simpa using hu, hu1⟩
   have hone : ∀ u ∈ (cur.toList.drop j).take mm, u.oneCell' = true := fun u hu => by
    obtain ⟨k, hk⟩ := List.mem_iff_getElem?.1 hu
    obtain ⟨h10, h11⟩ := hcs1 k u hk
    obtain ⟨u', hu', h12⟩ := hel1 (j + k) (by omega)
    rw [h11] at hu'; cases hu'; exact h12
   have hrun := run_copy_row (P := κ.P) w t t ty e g (if c1 = i then 0 else i) (l.length - i) (c1 - i) ⟨g, if c1 = j then 0 else j, none⟩ (l.length - j) (c1 - j) cur e ((cur.toList.drop j).take mm) hE.sl hsz hg (by rw [hlen, ← hmm])
    (fun k u hu => by
     obtain ⟨h10, h11⟩ := hcs1 k u hu
     have : ¬ c1 = j := by omega
     rw [if_neg this, add_lit, blk_cell hg]; exact h11)
    (by rw [hlen]; split <;> omega) hone
   rw [hlen] at hrun
   generalize hcur : (cur.toList.take (if c1 = i then 0 else i) ++ (cur.toList.drop j).take mm ++ cur.toList.drop ((if c1 = i then 0 else i) + mm)).toArray = cur2 at hrun
   have hget : ∀ k, cur2[k]? = if k < i then cur[k]? else if k < i + mm then cur[j + (k - i)]? else cur[k]? := fun k => by
    rw [← hcur]
    simp only [List.append_assoc, List.getElem?_toArray]
    by_cases hci : c1 = i
    ·have hm0 : mm = 0 := by omega
     subst hm0
     rw [if_pos hci]
     simp
     intro h; omega
    ·rw [if_neg hci]
     have hto : (cur.toList.take i).length = i := by simp; omega
     rw [List.getElem?_append, hto]
     split
     ·rename_i hk; rw [List.getElem?_take, if_pos hk]; simp
     ·rename_i hk
      rw [List.getElem?_append, hlen]
      split
      ·rename_i hk2
       rw [if_pos (by omega), List.getElem?_take, if_pos hk2, List.getElem?_drop]; simp
      ·rename_i hk2
       rw [if_neg (by omega), List.getElem?_drop, Array.getElem?_toList]; congr 1; omega
   have hlget : ∀ k, (cpy l i j)[k]? = if k < i then l[k]? else if k < i + mm then l[j + (k - i)]? else l[k]? := fun k => by
    unfold cpy
    rw [hmm]
    have hto : (l.take i).length = i := by simp; omega
    have hl2 : ((l.drop j).take mm).length = mm := by simp; omega
    rw [List.append_assoc, List.getElem?_append, hto]
    split
    ·rename_i hk; rw [List.getElem?_take, if_pos hk]
    ·rename_i hk
     rw [List.getElem?_append, hl2]
     split
     ·rename_i hk2
      rw [if_pos (by omega), List.getElem?_take, if_pos hk2, List.getElem?_drop]
     ·rename_i hk2
      rw [if_neg (by omega), List.getElem?_drop]; congr 1; omega
   have hrl : (cpy l i j).length = l.length := by unfold cpy; rw [hmm]; simp; omega
   have hw := s.holds.swapAt (i' := rowL v e 1 f (cpy l i j)) hi (w' := w.setRow g cur2) (by simp) rfl rfl rfl (fun b _ hb => setRow_other w g b _ (fun q => hb (by rw [q]; show v.ownBlock = some g; rw [hv']; rfl))) (fun b hb => .inl hb)
    (fun M hl => by
     refine .inr ⟨g, c1, cur2, by rw [hv']; simp [hrl], setRow_new hg, by simp [hrl]; omega, h7, by rw [← hcur]; simp; split <;> omega, fun k es hes => ?_⟩
     simp only [List.getElem?_map, Option.map_eq_some_iff] at hes
     obtain ⟨q, hq, rfl⟩ := hes
     rw [hlget] at hq
     have hsrc : ∃ k' : Nat, l[k']? = some q ∧ cur2[k]? = cur[k']? := by
      rw [hget]
      split at hq
      ·rename_i hk; exact ⟨k, hq, by rw [if_pos hk]⟩
      ·rename_i hk
       split at hq
       ·rename_i hk2; exact ⟨_, hq, by rw [if_neg hk, if_pos hk2]⟩
       ·rename_i hk2; exact ⟨k, hq, by rw [if_neg hk, if_neg hk2]⟩
     obtain ⟨k', hk', hcc⟩ := hsrc
     obtain ⟨h10, h11⟩ := h9 k' (f q) (by simp [hk'])
     refine ⟨h10, fun j' U hU => ?_⟩
     have hj0 : j' = 0 := by have := (List.getElem?_eq_some_iff.1 hU).1; omega
     subst hj0
     obtain ⟨u, hu, hu1, hu2⟩ := h11 0 U hU
     exact ⟨u, by simp only [Nat.mul_one, Nat.add_zero] at hu ⊢; rw [hcc]; exact hu, hu1, U.mono hu2 hl⟩)
   exact ⟨_, _, _, _, by simp [execOp, resolve, invoke, builtin, h1, h2, hrun, goInt], hw.1, hw.2, rfl, h⟩
end
end
end Go.Proofs.YtocfnpnnbmicmaaDoor.Tc
namespace Go.Proofs.YtocfnpnnbmicmaaDoor.Tc
open Go Go.RowKit
theorem callP_of_own {P : Program} {gl : Gl} {f : FuncId} {As : List Ty} {α : Type} {e : TypeId} {sz : Nat} {g : α → List Ty} {r : List α} (h : CallOk P gl f As [] Value (fun x => (Ty.own x, [rowL x e sz g r]))) : CallP P gl f As (tL sz g r) := fun L w vs hh ha => by
 refine (h L w vs hh ha).mono ?_
 rintro en w' ⟨v, x, rfl, h1, h2, h3⟩
 have hv : v = x := h3.1
 subst hv
 obtain ⟨h5, h6, h7⟩ := erase_facts (n := 0) (i := rowL v e sz g r) h1 rfl
 have hrow : RowAt v e sz (r.map g) (foot ([rowL v e sz g r] ++ L)) w' := h1.each (rowL v e sz g r) (by simp)
 exact ⟨v, (), rfl, h5, h2.trans h6, row_slice hrow h6 (fun b hb => h7 b hb)⟩
end Go.Proofs.YtocfnpnnbmicmaaDoor.Tc
end
section
set_option linter.unusedVariables false
set_option linter.unusedSimpArgs false
namespace Go.Proofs.YtocfnpnnbmicmaaDoor.Tc
open Go Go.RowKit
section
variable {κ : Kx} {Q : Post} {Γ : Cx} {L : List Item} {ops : Array Oper} {rest l : List Oper} {hs : Hs}
variable {dst : Option Nat} {op : Op} {ty : TypeId} {pos : String} {after : Array Edge} {gd : Option (Nat × Bool)} {C : Ty → List Item → Prop}
theorem okL_nilrowB {sz g : Nat} {e2 : TypeId} {us : List Ty} {α : Type} (f : α → List Ty) (e : TypeId) (n j : Nat) (us' : List Ty) (L' : List Item) (hn : L[n]? = some (Item.blk g e2 us)) (hj : us[j]? = some (Ty.val (.slice none 0 0))) (hu : us' = us.set j (Ty.own (.slice none 0 0))) (hL : L' = rowL (.slice none 0 0) e sz f [] :: L.set n (Item.blk g e2 us'))
  (h : OkL κ ops Q l Γ L') : OkL κ ops Q l Γ L := fun a w s => by
 subst hu hL; exact h a w (s.nilrowB f e n hn hj)
inductive Cell where
 | i (n : Int)
 | b (z : Bool)
def Cell.val : Cell → Value
 | .i n => .int .i64 n
 | .b z => .bool z
def Cell.eq : Cell → Cell → Bool
 | .i m, .i n => m == n
 | .b m, .b n => m == n
 | _, _ => false
theorem okL_blksub {g : Nat} {e : TypeId} {us : List Ty} (n : Nat) (us' : List Ty) (L' : List Item) (hn : L[n]? = some (Item.blk g e us)) (hs : SubL us us') (hL : L' = L.set n (Item.blk g e us')) (h : OkL κ ops Q l Γ L') : OkL κ ops Q l Γ L := fun a w s => by
 subst hL; exact h a w (s.blksub n hn hs)
end
end Go.Proofs.YtocfnpnnbmicmaaDoor.Tc
end
