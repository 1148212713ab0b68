/- The typing calculus: arrays of integers, structs that are compared, maps from integers, guarded links of a chain. -/
import Derived.Test.YtocfnpnnbmicmaaDoorBase14
import Derived.Laws.StructEq
import Derived.MapKept
import Derived.Carry
set_option linter.unusedVariables false
set_option linter.unusedSimpArgs false
namespace Go.Proofs.YtocfnpnnbmicmaaDoor.Tc
open Go Go.RowKit

section
variable {κ : Kx} {Q : Post} {Γ : Cx} {L : List Item} {ops : Array Oper} {rest l : List Oper} {hs : Hs}
variable {dst : Option Nat} {op : Op} {ty : TypeId} {pos : String} {after : Array Edge} {gd : Option (Nat × Bool)} {C : Ty → List Item → Prop}
theorem okL_nilrowB {sz g : Nat} {e2 : TypeId} {us : List Ty} {α : Type} (f : α → List Ty) (e : TypeId) (n j : Nat) (us' : List Ty) (L' : List Item) (hn : L[n]? = some (Item.blk g e2 us)) (hj : us[j]? = some (Ty.val (.slice none 0 0))) (hu : us' = us.set j (Ty.own (.slice none 0 0))) (hL : L' = rowL (.slice none 0 0) e sz f [] :: L.set n (Item.blk g e2 us'))
    (h : OkL κ ops Q l Γ L') : OkL κ ops Q l Γ L := fun a w s => by
  subst hu hL; exact h a w (s.nilrowB f e n hn hj)

/-! ### Arrays of integers -/
abbrev cI (l : List Int) : List Ty := l.map (fun n : Int => tI n)
abbrev arrL (g : Nat) (e : TypeId) (l : List Int) : Item := Item.blk g e (cI l)
theorem cI_get {l : List Int} {m y : Int} (h : idx l m = some y) : (cI l)[m.toNat]? = some (tI y) := by
  obtain ⟨_, _, h⟩ := idx_some h
  simp [h]
theorem does_indexA {t e : TypeId} {x i : Operand} {g len : Nat} {k : IntKind} {m : Int} (hu : κ.P.underlying t = some (.array len e)) (hsz : ∀ w, (sizeOf e).run κ.P w = .ok 1 w) (hm : (decide (0 ≤ m) && decide (m < len)) = true)
    (hx : opTy Γ x = some (pAt g 0)) (hi : opTy Γ i = some (tK k m)) : Does κ ⟨dst, .indexAddr t x i, ty, pos, after, gd⟩ Γ L (pAt g m.toNat) :=
  does_of_run fun L' a w _ _ he => by
    have h1 : a.eval x = .pointer (some ⟨g, 0, none⟩) := opTy_holds he hx
    have h2 : a.eval i = .int k m := opTy_holds he hi
    simp only [Bool.and_eq_true, decide_eq_true_eq] at hm
    refine ⟨.pointer (some ⟨g, m.toNat, none⟩), ?_, rfl⟩
    simp [execOp, h1, h2, Instr.indexAt, Instr.sureAddr, asIntOf, run_underlying hu, hm.1, hm.2, hsz, add_lit]
theorem doesO_storeA {t e : TypeId} {x y : Operand} {g : Nat} {la : List Int} {m y0 y1 : Int} (n : Nat) (L' : List Item) (hx : opTy Γ x = some (pAt g m.toNat)) (hy : opTy Γ y = some (tI y1))
    (hsz : ∀ w, (sizeOf t).run κ.P w = .ok 1 w) (hi : L[n]? = some (arrL g e la)) (hidx : idx la m = some y0) (hL : L' = L.set n (arrL g e (la.set m.toNat y1)))
    (h : C (Ty.val undef) L') : DoesO κ ⟨dst, .store t x y, ty, pos, after, gd⟩ Γ L C := by
  obtain ⟨h3, h4, h5⟩ := idx_some hidx
  have hlt : m.toNat < la.length := by omega
  refine doesO_storeB (ps := [tI y1]) n (cI (la.set m.toNat y1)) L' hx hy (part_one (one_i _)) hsz hi (Nat.ble_eq_true_of_le (by simp; omega)) ?_ hL h
  apply List.ext_getElem?
  intro j
  rw [over_get _ _ _ (by simp; omega)]
  simp only [List.getElem?_map, List.getElem?_set, List.length_cons, List.length_nil]
  by_cases hj : m.toNat = j
  · subst hj; simp [hlt]
  · rw [if_neg hj]
    by_cases h6 : j < m.toNat
    · rw [if_pos h6]
    · rw [if_neg h6, if_neg (by omega)]
/-- The whole array as a slice, the array itself gone. -/
theorem doesO_sliceA {t e : TypeId} {x : Operand} {g len : Nat} {e0 : TypeId} {la : List Int} (n : Nat) (L' : List Item) (hu : κ.P.underlying t = some (.array len e)) (hsz : ∀ w, (sizeOf e).run κ.P w = .ok 1 w) (hlen : (la.length == len) = true)
    (hx : opTy Γ x = some (pAt g 0)) (hi : L[n]? = some (arrL g e0 la)) (hL : L' = L.eraseIdx n) (h : C (tL 1 lI la) L') : DoesO κ ⟨dst, .slice t x none none none, ty, pos, after, gd⟩ Γ L C :=
  doesO_run fun a w s => by
    have h1 : a.eval x = .pointer (some ⟨g, 0, none⟩) := opTy_holds s.env hx
    have hlen' : la.length = len := by simpa using hlen
    obtain ⟨hE1, hE2, hE3⟩ := erase_facts s.holds hi
    obtain ⟨cs, hg, ha⟩ : BlkAt g e0 (cI la) (foot L) w := s.holds.each _ (List.mem_of_getElem? hi)
    subst hL
    refine ⟨.slice (some ⟨g, 0, none⟩) len len, w, tL 1 lI la, L.eraseIdx n, ?_, hE1, hE2, ?_, h⟩
    · by_cases h0 : len = 0
      · simp [execOp, h1, Instr.sliceAt, Instr.sureAddr, Instr.sliceBounds, run_underlying hu, hsz, h0]
      · simp [execOp, h1, Instr.sliceAt, Instr.sureAddr, Instr.sliceBounds, run_underlying hu, hsz, h0, Addr.add]
    · refine ⟨some ⟨g, 0, none⟩, len, by simp [hlen'], by simp [hlen'], fun i es hes => ?_⟩
      simp only [List.getElem?_map, Option.map_eq_some_iff] at hes
      obtain ⟨y, hy, rfl⟩ := hes
      refine ⟨rfl, _, rfl, fun j T hT => ⟨by rw [add_block]; exact hE3 g rfl, ?_⟩⟩
      match j with
      | j + 1 => simp [lI] at hT
      | 0 =>
        cases hT
        obtain ⟨u, hu1, hu2, hu3⟩ := ha.2 i (tI y) (by simp [hy])
        exact ⟨u, by rw [add_add, add_lit, blk_cell hg]; simpa using hu1, hu2, hu3⟩

/-! ### Structs that are compared -/
/-- The cells of a struct of plain cells. -/
inductive Cell where
  | i (n : Int)
  | b (z : Bool)
def Cell.val : Cell → Value
  | .i n => .int .i64 n
  | .b z => .bool z
def Cell.eq : Cell → Cell → Bool
  | .i m, .i n => m == n
  | .b m, .b n => m == n
  | _, _ => false
/-- The fields, each of one cell, an int or a bool. -/
inductive Fields (P : Program) : List Field → List Cell → List Cell → Nat → Prop where
  | nil {o} : Fields P [] [] [] o
  | i {f : Field} {fs m n cs ds o} (hu : P.underlying f.type = some (.int .i64)) (hn : f.name ≠ "_") (ho : f.offset = o) (ha : ∀ w, (isAgg f.type).run P w = .ok false w) (h : Fields P fs cs ds (o + 1)) : Fields P (f :: fs) (.i m :: cs) (.i n :: ds) o
  | b {f : Field} {fs m n cs ds o} (hu : P.underlying f.type = some .bool) (hn : f.name ≠ "_") (ho : f.offset = o) (ha : ∀ w, (isAgg f.type).run P w = .ok false w) (h : Fields P fs cs ds (o + 1)) : Fields P (f :: fs) (.b m :: cs) (.b n :: ds) o
def eqs : List Cell → List Cell → Bool
  | c :: cs, d :: ds => c.eq d && eqs cs ds
  | _, _ => true
theorem run_eqFields {P : Program} {w : World} {d : Nat} : ∀ {fs : List Field} {cs ds : List Cell} {o : Nat} {xs ys : Array Value}, Fields P fs cs ds o → (∀ (j : Nat) (c : Cell), cs[j]? = some c → xs[o + j]? = some c.val) → (∀ (j : Nat) (c : Cell), ds[j]? = some c → ys[o + j]? = some c.val) →
    (Op.eqFields (d + 1) xs ys fs).run P w = .ok (eqs cs ds) w := by
  intro fs cs ds o xs ys h
  induction h with
  | nil => intro _ _; simp [Op.eqFields, eqs]
  | @i f fs m n cs ds o hu hn ho ha hr ih =>
    intro hx hy
    have hx0 : xs[f.offset]? = some (.int .i64 m) := by have := hx 0 _ rfl; rw [ho]; simpa [Cell.val] using this
    have hy0 : ys[f.offset]? = some (.int .i64 n) := by have := hy 0 _ rfl; rw [ho]; simpa [Cell.val] using this
    have hx1 := ih (fun j c hc => by have := hx (j + 1) c (by simpa using hc); rw [← this]; congr 1; omega) (fun j c hc => by have := hy (j + 1) c (by simpa using hc); rw [← this]; congr 1; omega)
    simp only [Op.eqFields, hn, ne_eq, not_false_eq_true, if_true, Sem.run_bind, part, ha, Result.andThen_ok, Bool.false_eq_true, if_false, hx0, hy0, Sem.run_pure, run_equalIn_int w d f.type _ _ m n hu]
    cases hmn : m == n
    · simp [eqs, Cell.eq, hmn]
    · simp [eqs, Cell.eq, hmn, hx1]
  | @b f fs m n cs ds o hu hn ho ha hr ih =>
    intro hx hy
    have hx0 : xs[f.offset]? = some (.bool m) := by have := hx 0 _ rfl; rw [ho]; simpa [Cell.val] using this
    have hy0 : ys[f.offset]? = some (.bool n) := by have := hy 0 _ rfl; rw [ho]; simpa [Cell.val] using this
    have hx1 := ih (fun j c hc => by have := hx (j + 1) c (by simpa using hc); rw [← this]; congr 1; omega) (fun j c hc => by have := hy (j + 1) c (by simpa using hc); rw [← this]; congr 1; omega)
    simp only [Op.eqFields, hn, ne_eq, not_false_eq_true, if_true, Sem.run_bind, part, ha, Result.andThen_ok, Bool.false_eq_true, if_false, hx0, hy0, Sem.run_pure, run_equalIn_bool w d f.type m n hu]
    cases hmn : m == n
    · simp [eqs, Cell.eq, hmn]
    · simp [eqs, Cell.eq, hmn, hx1]
def Cell.tyc : Cell → Ty
  | .i n => tI n
  | .b z => tB z
theorem cells_at {M : Fb} {w : World} {cs : List Cell} {xs : Array Value} (h : ArrAt (cs.map Cell.tyc) M w xs) : ∀ (j : Nat) (c : Cell), cs[j]? = some c → xs[0 + j]? = some c.val := fun j c hc => by
  obtain ⟨u, hu, _, hv⟩ := h.2 j c.tyc (by simp [hc])
  rw [Nat.zero_add, hu]
  cases c with
  | i n => have : u = .int .i64 n := hv; rw [this]; rfl
  | b n => have : u = .bool n := hv; rw [this]; rfl
theorem eql_run {t1 t2 : TypeId} {x y : Operand} {cs ds : List Cell} {fs : Array Field} (hu : κ.P.underlying t1 = some (.struct fs)) (hp : κ.P.stoodInHeld t1 = false) (hg : κ.P.eqGuardType κ.P.depth t1 = false) (hf : Fields κ.P fs.toList cs ds 0)
    {tx ty' : List Ty} (htx : tx = cs.map Cell.tyc) (hty : ty' = ds.map Cell.tyc) (hx : opTy Γ x = some (Ty.agg tx)) (hy : opTy Γ y = some (Ty.agg ty')) {L' : List Item} {a : Act} {w : World} (he : EnvOk Γ L' a.tmps w) :
    ∃ xs ys, a.eval x = .agg xs ∧ a.eval y = .agg ys ∧ (Op.equalIn 10000 t1 (.agg xs) (.agg ys)).run κ.P w = .ok (eqs cs ds) w := by
  subst htx hty
  obtain ⟨xs, h1, h2⟩ := opTy_holds he hx
  obtain ⟨ys, h3, h4⟩ := opTy_holds he hy
  refine ⟨xs, ys, h1, h3, ?_⟩
  have hfs : κ.P.fieldsOf t1 = fs := by simp [Program.fieldsOf, hu]
  rw [run_equalIn_struct w 9999 t1 xs ys (by rw [hfs]; exact hu) hp, hfs]
  exact run_eqFields (d := 9998) hf (cells_at h2) (cells_at h4)
theorem does_eqlS {t1 t2 : TypeId} {x y : Operand} {tx ty' : List Ty} {fs : Array Field} (cs ds : List Cell) (r : Bool) (hu : κ.P.underlying t1 = some (.struct fs)) (hp : κ.P.stoodInHeld t1 = false) (hg : κ.P.eqGuardType κ.P.depth t1 = false) (hf : Fields κ.P fs.toList cs ds 0)
    (htx : tx = cs.map Cell.tyc) (hty : ty' = ds.map Cell.tyc) (hr : r = eqs cs ds) (hx : opTy Γ x = some (Ty.agg tx)) (hy : opTy Γ y = some (Ty.agg ty')) : Does κ ⟨dst, .binOp .eql t1 x y t2, ty, pos, after, gd⟩ Γ L (tB r) :=
  does_of_run fun L' a w _ _ he => by
    obtain ⟨xs, ys, h1, h2, h3⟩ := eql_run (t2 := t2) hu hp hg hf htx hty hx hy he
    subst hr
    exact ⟨_, by simp [execOp, h1, h2, run_eqGuard_agg w .eql t1 x y xs ys hg, run_eql_struct, h3], rfl⟩
theorem does_neqS {t1 t2 : TypeId} {x y : Operand} {tx ty' : List Ty} {fs : Array Field} (cs ds : List Cell) (r : Bool) (hu : κ.P.underlying t1 = some (.struct fs)) (hp : κ.P.stoodInHeld t1 = false) (hg : κ.P.eqGuardType κ.P.depth t1 = false) (hf : Fields κ.P fs.toList cs ds 0)
    (htx : tx = cs.map Cell.tyc) (hty : ty' = ds.map Cell.tyc) (hr : r = !(eqs cs ds)) (hx : opTy Γ x = some (Ty.agg tx)) (hy : opTy Γ y = some (Ty.agg ty')) : Does κ ⟨dst, .binOp .neq t1 x y t2, ty, pos, after, gd⟩ Γ L (tB r) :=
  does_of_run fun L' a w _ _ he => by
    obtain ⟨xs, ys, h1, h2, h3⟩ := eql_run (t2 := t2) hu hp hg hf htx hty hx hy he
    subst hr
    exact ⟨_, by simp [execOp, h1, h2, run_eqGuard_agg w .neq t1 x y xs ys hg, run_neq_struct, h3], rfl⟩

/-! ### Maps from integers -/
def mget {α : Type} (l : List (Int × α)) (k : Int) : Option α := (l.find? (fun p => p.1 == k)).map (·.2)
def mput {α : Type} (l : List (Int × α)) (k : Int) (y : α) : List (Int × α) := if l.any (fun p => p.1 == k) then l.map (fun p => if p.1 == k then (k, y) else p) else l ++ [(k, y)]
structure MapAt {α : Type} (g : Nat) (f : α → Ty) (l : List (Int × α)) (M : Fb) (w : World) : Prop where
  keys : (l.map (·.1)).Nodup
  ents : ∃ es clock, w.heap[g]? = some (.map es clock) ∧ es.size = l.length ∧ ∀ (i : Nat) (p : Int × α), l[i]? = some p → ∃ e, es[i]? = some e ∧ e.key = .int .i64 p.1 ∧ (f p.2).holds M w e.val
def mapL {α : Type} (g : Nat) (f : α → Ty) (l : List (Int × α)) : Item :=
  ⟨fun b => b = g, MapAt g f l, fun ⟨_, es, clock, h, _⟩ hb => by subst hb; exact lt_of_some h,
   fun ⟨h0, es, clock, h, h1, h2⟩ hk hl => ⟨h0, es, clock, (hk g (lt_of_some h) rfl).trans h, h1, fun i p hp => let ⟨e, he, hk, hv⟩ := h2 i p hp; ⟨e, he, hk, (f p.2).mono hv hl⟩⟩⟩
theorem get_nodup {α : Type} {l : List (Int × α)} (h : (l.map (·.1)).Nodup) {i j : Nat} {p q : Int × α} (hi : l[i]? = some p) (hj : l[j]? = some q) (he : p.1 = q.1) : i = j := by
  induction l generalizing i j with
  | nil => simp at hi
  | cons x l ih =>
    simp only [List.map_cons, List.nodup_cons, List.mem_map, not_exists, not_and] at h
    cases i with
    | zero =>
      cases j with
      | zero => rfl
      | succ j =>
        simp at hi hj; subst hi
        exact absurd he.symm (h.1 q (List.mem_of_getElem? hj))
    | succ i =>
      cases j with
      | zero => simp at hi hj; subst hj; exact absurd he (h.1 p (List.mem_of_getElem? hi))
      | succ j => simp at hi hj; rw [ih h.2 hi hj]
theorem mget_at {α : Type} {l : List (Int × α)} (h : (l.map (·.1)).Nodup) {i : Nat} {p : Int × α} (hi : l[i]? = some p) : mget l p.1 = some p.2 := by
  unfold mget
  cases hf : l.find? (fun q => q.1 == p.1) with
  | none => have := List.find?_eq_none.1 hf p (List.mem_of_getElem? hi); simp at this
  | some q =>
    have h1 := List.find?_some hf
    simp only [beq_iff_eq] at h1
    obtain ⟨j, hj⟩ := List.mem_iff_getElem?.1 (List.mem_of_find?_eq_some hf)
    have := get_nodup h hi hj h1.symm
    subst this
    rw [hi] at hj; cases hj; rfl
theorem mget_none {α : Type} {l : List (Int × α)} {k : Int} (h : ∀ p, p ∈ l → p.1 ≠ k) : mget l k = none := by
  unfold mget
  rw [List.find?_eq_none.2 (fun p hp => by simpa using h p hp)]; rfl
theorem find_ent {α : Type} {g : Nat} {f : α → Ty} {l : List (Int × α)} {M : Fb} {w : World} {es : Array MapEntry} (k : Int) (h1 : es.size = l.length) (h2 : ∀ (i : Nat) (p : Int × α), l[i]? = some p → ∃ e, es[i]? = some e ∧ e.key = .int .i64 p.1 ∧ (f p.2).holds M w e.val) :
    (Instr.findNow (.int .i64) (.int .i64 k) es.toList 0 = some none ∧ ∀ p, p ∈ l → p.1 ≠ k) ∨ ∃ j e p, Instr.findNow (.int .i64) (.int .i64 k) es.toList 0 = some (some (j, e.val)) ∧ es[j]? = some e ∧ e.key = .int .i64 k ∧ l[j]? = some p ∧ p.1 = k ∧ (f p.2).holds M w e.val := by
  have hkeys : ∀ x ∈ es.toList, MapKept.IsKey (.int .i64) x.key := fun x hx => by
    obtain ⟨i, hi⟩ := List.mem_iff_getElem?.1 hx
    have hil : i < l.length := by rw [← h1]; have := (List.getElem?_eq_some_iff.1 hi).1; simpa using this
    obtain ⟨e, he, hk, _⟩ := h2 i _ (List.getElem?_eq_getElem hil)
    have : x = e := by rw [Array.getElem?_toList, he] at hi; exact (Option.some.inj hi).symm
    subst this
    rw [hk]; simp [MapKept.IsKey]
  rcases MapKept.findNow_spec (d := .int .i64) (k := .int .i64 k) (by simp [MapKept.IsKey]) es.toList 0 hkeys with ⟨h3, h4⟩ | ⟨j, e, h3, h4, h5⟩
  · refine .inl ⟨h3, fun p hp hq => ?_⟩
    obtain ⟨i, hi⟩ := List.mem_iff_getElem?.1 hp
    obtain ⟨e, he, hk, _⟩ := h2 i p hi
    exact h4 e (by rw [← Array.getElem?_toList] at he; exact List.mem_of_getElem? he) (by rw [hk, hq])
  · have he : es[j]? = some e := by rw [← Array.getElem?_toList]; exact h4
    have hjl : j < l.length := by rw [← h1]; exact (Array.getElem?_eq_some_iff.1 he).1
    obtain ⟨e', he', hk, hv⟩ := h2 j _ (List.getElem?_eq_getElem hjl)
    rw [he] at he'; cases he'
    rw [h5] at hk
    have hpk : l[j].1 = k := by cases hk; rfl
    exact .inr ⟨j, e, l[j], by simpa using h3, he, h5, List.getElem?_eq_getElem hjl, hpk, hv⟩
/-- v, ok := m[k], the elements slices. -/
theorem does_lookup {α : Type} {t kt et : TypeId} {x i : Operand} {g : Nat} {k : Int} {sz : Nat} {f : α → List Ty} {l : List (Int × List α)} (y : List α) (b : Bool) (hu : κ.P.underlying t = some (.map kt et)) (hk : κ.P.underlying kt = some (.int .i64)) (hz : ∀ w, (zeroValue et).run κ.P w = .ok (.slice none 0 0) w)
    (n : Nat) (hy : y = (mget l k).getD []) (hb : b = (mget l k).isSome) (hx : opTy Γ x = some (Ty.val (.map (some g)))) (hi : opTy Γ i = some (tI k)) (hL : L[n]? = some (mapL g (tL sz f) l)) : Does κ ⟨dst, .lookup t x i true, ty, pos, after, gd⟩ Γ L (Ty.tup [tL sz f y, tB b]) :=
  does_of_run fun L' a w hs hh he => by
    subst hy hb
    have h1 : a.eval x = .map (some g) := opTy_holds he hx
    have h2 : a.eval i = .int .i64 k := opTy_holds he hi
    obtain ⟨h0, es, clock, hg, h3, h4⟩ : MapAt g (tL sz f) l (foot L') w := hh.each _ (hs _ (List.mem_of_getElem? hL))
    have hck : (Instr.checkKey es.isEmpty 10000 kt (.int .i64 k)).run κ.P w = .ok () w := MapKept.run_checkKey hk (by simp [MapKept.IsKey]) _ 9999
    rcases find_ent (g := g) k h3 h4 with ⟨h5, h6⟩ | ⟨j, e, p, h5, _, _, h6, h7, h8⟩
    · have hf := MapKept.run_findKey (w := w) hk h5
      refine ⟨.tuple #[.slice none 0 0, .bool false], ?_, _, rfl, rfl, fun q T hT => ?_⟩
      · simp [execOp, h1, h2, Instr.lookup, run_underlying hu, MapKept.run_getObj_map hg, hck, hf, hz]
      · rw [mget_none h6] at hT
        match q with
        | 0 => cases hT; exact ⟨_, rfl, sub_nil _ _ _ _ rfl⟩
        | 1 => cases hT; exact ⟨_, rfl, rfl⟩
        | q + 2 => simp at hT
    · have hf := MapKept.run_findKey (w := w) hk h5
      refine ⟨.tuple #[e.val, .bool true], ?_, _, rfl, rfl, fun q T hT => ?_⟩
      · simp [execOp, h1, h2, Instr.lookup, run_underlying hu, MapKept.run_getObj_map hg, hck, hf]
      · have hm := mget_at h0 h6
        rw [h7] at hm
        rw [hm] at hT
        match q with
        | 0 => cases hT; exact ⟨_, rfl, h8⟩
        | 1 => cases hT; exact ⟨_, rfl, rfl⟩
        | q + 2 => simp at hT
theorem doesO_makeMap {α : Type} {t : TypeId} (f : α → Ty) (h : ∀ g, C (Ty.val (.map (some g))) (mapL g f [] :: L)) : DoesO κ ⟨dst, .makeMap t none, ty, pos, after, gd⟩ Γ L C :=
  doesO_run fun a w s => by
    have hnew := s.holds.new (i' := mapL w.heap.size f []) (w' := w.alloc (.map #[] 0)) (by simp) rfl rfl rfl (fun b hb => (MapKept.heap_alloc w _).2 b hb)
      (fun b hb => by have hb' : b = w.heap.size := hb; omega)
      (fun M hl _ _ => ⟨by simp, #[], 0, (MapKept.heap_alloc w _).1, rfl, fun i p hp => by simp at hp⟩)
    exact ⟨.map (some w.heap.size), _, Ty.val (.map (some w.heap.size)), _, by simp [execOp, run_makeMap], hnew.1, hnew.2, rfl, h _⟩
theorem mput_nodup {α : Type} {l : List (Int × α)} {k : Int} {y : α} (h : (l.map (·.1)).Nodup) : ((mput l k y).map (·.1)).Nodup := by
  unfold mput
  split
  · have : (l.map (fun p => if p.1 == k then (k, y) else p)).map (·.1) = l.map (·.1) := by
      rw [List.map_map]
      apply List.map_congr_left
      intro p _
      simp only [Function.comp]
      split
      · rename_i hq; simpa using (beq_iff_eq.1 hq).symm
      · rfl
    rw [this]; exact h
  · rename_i ha
    rw [List.map_append, List.nodup_append]
    refine ⟨h, by simp, fun a hx b hb => ?_⟩
    simp only [List.map_cons, List.map_nil, List.mem_singleton] at hb
    subst hb
    obtain ⟨p, hp, rfl⟩ := List.mem_map.1 hx
    intro hq
    exact ha (List.any_eq_true.2 ⟨p, hp, by simpa using hq⟩)
theorem same_int (n : Nat) (k : Int) : Instr.sameBits (n + 1) (.int .i64 k) (.int .i64 k) = true := by simp [Instr.sameBits]
theorem doesO_mapUpdate {α : Type} {t kt et : TypeId} {x i v : Operand} {g : Nat} {k : Int} {f : α → Ty} {l : List (Int × α)} {y : α} {T : Ty} (n : Nat) (L' : List Item) (hu : κ.P.underlying t = some (.map kt et)) (hk : κ.P.underlying kt = some (.int .i64))
    (hx : opTy Γ x = some (Ty.val (.map (some g)))) (hi : opTy Γ i = some (tI k)) (hv : opTy Γ v = some T) (hT : Sub T (f y)) (hn : L[n]? = some (mapL g f l)) (hL : L' = L.set n (mapL g f (mput l k y))) (h : C (Ty.val undef) L') : DoesO κ ⟨dst, .mapUpdate t x i v, ty, pos, after, gd⟩ Γ L C :=
  doesO_unit fun a w s => by
    have h1 : a.eval x = .map (some g) := opTy_holds s.env hx
    have h2 : a.eval i = .int .i64 k := opTy_holds s.env hi
    have hvv : (f y).holds (foot L) w (a.eval v) := hT _ _ _ (opTy_holds s.env hv)
    obtain ⟨h0, es, clock, hg, h3, h4⟩ : MapAt g f l (foot L) w := s.holds.each _ (List.mem_of_getElem? hn)
    have hck : (Instr.checkKey false 10000 kt (.int .i64 k)).run κ.P w = .ok () w := MapKept.run_checkKey hk (by simp [MapKept.IsKey]) _ 9999
    subst hL
    have key : ∀ es' clock', (execOp a.eval ⟨dst, .mapUpdate t x i v, ty, pos, after, gd⟩).run κ.P w = .ok .skip { w with heap := w.heap.setIfInBounds g (.map es' clock') } →
        (es'.size = (mput l k y).length ∧ ∀ (M : Fb) (w' : World), Le (foot L) w M w' → ∀ (i : Nat) (p : Int × α), (mput l k y)[i]? = some p → ∃ e, es'[i]? = some e ∧ e.key = .int .i64 p.1 ∧ (f p.2).holds M w' e.val) →
        ∃ w' L', (execOp a.eval ⟨dst, .mapUpdate t x i v, ty, pos, after, gd⟩).run κ.P w = .ok .skip w' ∧ Holds κ.gl L' w' ∧ Le (foot L) w (foot L') w' ∧ C (Ty.val undef) L' := by
      intro es' clock' hr hes
      have hs := MapKept.heap_set (o' := .map es' clock') hg
      have hw := s.holds.swapAt (i' := mapL g f (mput l k y)) hn (w' := { w with heap := w.heap.setIfInBounds g (.map es' clock') }) (by simp) rfl rfl rfl (fun b _ hb => hs.2 b hb) (fun b hb => .inl hb)
        (fun M hl => ⟨mput_nodup h0, es', clock', hs.1, hes.1, hes.2 M _ hl⟩)
      exact ⟨_, _, hr, hw.1, hw.2, h⟩
    rcases find_ent (g := g) k h3 h4 with ⟨h5, h6⟩ | ⟨j, e, p, h5, h9, h10, h6, h7, h8⟩
    · have hf := MapKept.run_findKey (w := w) hk h5
      have hmp : mput l k y = l ++ [(k, y)] := by
        unfold mput
        rw [if_neg]
        intro hq
        obtain ⟨p, hp, hpk⟩ := List.any_eq_true.1 hq
        exact h6 p hp (by simpa using hpk)
      refine key (es.push { key := .int .i64 k, val := a.eval v, born := clock }) (clock + 1) ?_ ⟨by rw [hmp]; simp [h3], fun M w' hl i p hp => ?_⟩
      · simp [execOp, h1, h2, Instr.mapUpdate, run_underlying hu, MapKept.run_getObj_map hg, hck, hf, MapKept.run_setObj_map _ hg]
      · rw [hmp, List.getElem?_append] at hp
        split at hp
        · rename_i hi
          obtain ⟨e, he, hk2, hv2⟩ := h4 i p hp
          exact ⟨e, by rw [Array.getElem?_push, if_neg (by omega)]; exact he, hk2, (f p.2).mono hv2 hl⟩
        · rename_i hi
          have hil : i = l.length := by
            have := (List.getElem?_eq_some_iff.1 hp).1
            simp at this; omega
          subst hil
          simp only [Nat.sub_self, List.getElem?_cons_zero, Option.some.injEq] at hp
          subst hp
          exact ⟨_, by rw [Array.getElem?_push, if_pos h3.symm], rfl, (f y).mono hvv hl⟩
    · have hf := MapKept.run_findKey (w := w) hk h5
      have hmp : mput l k y = l.set j (k, y) := by
        unfold mput
        rw [if_pos (List.any_eq_true.2 ⟨p, List.mem_of_getElem? h6, by simpa using h7⟩)]
        apply List.ext_getElem?
        intro i
        rw [List.getElem?_map, List.getElem?_set]
        by_cases hji : j = i
        · subst hji
          have : j < l.length := (List.getElem?_eq_some_iff.1 h6).1
          rw [if_pos rfl, if_pos this, h6]; simp [h7]
        · rw [if_neg hji]
          cases hq : l[i]? with
          | none => rfl
          | some q =>
            have : (q.1 == k) = false := by
              cases hqk : q.1 == k with
              | false => rfl
              | true => exact absurd (get_nodup h0 h6 hq (by rw [h7]; exact (beq_iff_eq.1 hqk).symm)) hji
            simp only [Option.map_some, this, Bool.false_eq_true, if_false]
      refine key (es.modify j fun e => { e with key := .int .i64 k, val := a.eval v }) clock ?_ ⟨by rw [hmp]; simp [h3], fun M w' hl i q hq => ?_⟩
      · simp [execOp, h1, h2, Instr.mapUpdate, run_underlying hu, MapKept.run_getObj_map hg, hck, hf, MapKept.run_setObj_map _ hg, h9, h10, Instr.keyThatStays, same_int 9999]
      · rw [hmp, List.getElem?_set] at hq
        split at hq
        · rename_i hji
          subst hji
          split at hq
          · cases hq
            exact ⟨{ e with key := .int .i64 k, val := a.eval v }, by rw [Array.getElem?_modify]; simp [h9], rfl, (f y).mono hvv hl⟩
          · cases hq
        · rename_i hji
          obtain ⟨e2, he2, hk2, hv2⟩ := h4 i q hq
          exact ⟨e2, by rw [Array.getElem?_modify]; simp [hji, he2], hk2, (f q.2).mono hv2 hl⟩

/-- A call that is handed Lin, its arguments taken for less than they say. -/
theorem doesO_callS {X : Type} {Out : X → Ty × List Item} {Lin : List Item} {fo : Operand} {xs : List Operand} {tys : Array TypeId} {f : FuncId} {Bs : List Ty} (Lr : List Item) (hC : CallOk κ.P κ.gl f Bs Lin X Out)
    (hf : opTy Γ fo = some (Ty.val (.func (.func f) #[] #[]))) (hc : ∀ args w, (callFunc f args).run κ.P w = .ok (.enter f args) w)
    (hx : ArgSub Γ xs Bs) (hL : L.Perm (Lin ++ Lr)) (h : ∀ x, C (Out x).1 ((Out x).2 ++ Lr)) :
    DoesO κ ⟨dst, .call ⟨.value fo, xs.toArray, tys⟩, ty, pos, after, gd⟩ Γ L C := fun a w s0 K Q hk => by
  have s := s0.perm hL
  have e1 : a.eval fo = .func (.func f) #[] #[] := opTy_holds s.env hf
  unfold Oper.wp
  rw [run_call e1 hc, Array.append_empty]
  refine (hC Lr w _ s.holds (args_sub s.env hx)).mono ?_
  rintro e w' ⟨v, x, rfl, h1, h2, h3⟩
  exact hk _ _ _ _ h1 ((le_perm hL w).trans h2) h3 (h x)
theorem does_nilCheckR {x : Operand} {v : Value} {o : Nat} (hx : opTy Γ x = some (Ty.rptr v o)) : Does κ ⟨dst, .nilCheck x, ty, pos, after, gd⟩ Γ L (Ty.rptr v o) :=
  does_of_run fun L' a w _ _ he => by
    obtain ⟨g, n, c, hv, h1⟩ := opTy_holds he hx
    exact ⟨_, by simp [execOp, h1], g, n, c, hv, rfl⟩
theorem okL_blksub {g : Nat} {e : TypeId} {us : List Ty} (n : Nat) (us' : List Ty) (L' : List Item) (hn : L[n]? = some (Item.blk g e us)) (hs : SubL us us') (hL : L' = L.set n (Item.blk g e us')) (h : OkL κ ops Q l Γ L') : OkL κ ops Q l Γ L := fun a w s => by
  subst hL; exact h a w (s.blksub n hn hs)
end
/-- A row within the first result is taken as a slice that is only read. -/
theorem callP_of_leaf {P : Program} {gl : Gl} {f : FuncId} {As : List Ty} {α : Type} {e : TypeId} {sz : Nat} {g : α → List Ty} {r : List α} {rest : List Ty} {U : Ty} (h : CallOk P gl f As [] Value (fun x => (Ty.tup [Ty.agg (Ty.own x :: rest), U], [rowL x e sz g r]))) :
    CallP P gl f As (Ty.tup [Ty.agg (tL sz g r :: rest), U]) := fun L w vs hh ha => by
  refine (h L w vs hh ha).mono ?_
  rintro en w' ⟨v, x, rfl, h1, h2, cs, rfl, h4, h8⟩
  obtain ⟨h5, h6, h7⟩ := erase_facts (n := 0) (i := rowL x e sz g r) h1 rfl
  have hrow : RowAt x e sz (r.map g) (foot ([rowL x e sz g r] ++ L)) w' := h1.each (rowL x e sz g r) (by simp)
  have hsl : (tL sz g r).holds (foot L) w' x := row_slice hrow h6 (fun b hb => h7 b hb)
  refine ⟨_, (), rfl, h5, h2.trans h6, cs, rfl, h4, fun j T hT => ?_⟩
  match j with
  | 0 =>
    cases hT
    obtain ⟨u, hu, ds, rfl, h9, h10⟩ := h8 0 _ rfl
    refine ⟨_, hu, ds, rfl, h9, fun i V hV => ?_⟩
    cases i with
    | zero =>
      cases hV
      obtain ⟨z, hz, hz1, hz2⟩ := h10 0 (Ty.own x) rfl
      have hz3 : z = x := hz2.1
      subst hz3
      exact ⟨z, hz, hz1, hsl⟩
    | succ i =>
      obtain ⟨z, hz, hz1, hz2⟩ := h10 (i + 1) V hV
      exact ⟨z, hz, hz1, V.mono hz2 h6⟩
  | 1 =>
    cases hT
    obtain ⟨u, hu, hu1⟩ := h8 1 U rfl
    exact ⟨u, hu, U.mono hu1 h6⟩
  | j + 2 => simp at hT
end Go.Proofs.YtocfnpnnbmicmaaDoor.Tc
