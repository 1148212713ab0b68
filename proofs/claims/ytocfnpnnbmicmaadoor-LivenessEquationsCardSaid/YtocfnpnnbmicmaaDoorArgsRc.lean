/- What is handed in, read as Lean's data: integers, slices, structs; and that it reads so still behind the call. -/
import Derived.Test.YtocfnpnnbmicmaaDoorEntry
import Derived.WideKeyArgs
import Derived.Deep.DeepHandedRow
set_option linter.unusedVariables false
set_option linter.unusedSimpArgs false
namespace Go.Proofs.YtocfnpnnbmicmaaDoor.Tc
open Go Go.RowKit Go.ChangeShapes

/-- The cells read as ts. -/
def CsAt (W : World) (cs : List Value) (ts : List Ty) : Prop := ts.length = cs.length ∧ ∀ (j : Nat) (T : Ty), ts[j]? = some T → ∃ u, cs[j]? = some u ∧ u.oneCell' = true ∧ T.holds (foot []) W u
/-- What the type's data read as. -/
def Reads {α : Type} (t : TypeId) (f : α → List Ty) (ok : α → Prop) : Prop :=
  ∀ {H : Type} {enc : TypeId × Value → H} {W : World} {base : Nat} {sp : Nat → Bool} {held : Bool} {fuel : Nat} {cs : List Value} {d : DataW H} {ps : List MemPlace},
    DataW.trod enc Tryd.prog W base sp held fuel t cs = some (d, ps) → (∀ n ∈ d.weights Tryd.prog t, n ≤ reachBytes) → ∃ x, ok x ∧ CsAt W cs (f x)

/-- An int's range. -/
def I64 (n : Int) : Prop := -9223372036854775808 ≤ n ∧ n ≤ 9223372036854775807
theorem i64_wf {n : Int} (h : (Lit.int .i64 n).wf = true) : I64 n := by
  simp [Lit.wf, IntKind.min, IntKind.max, IntKind.bits, IntKind.signed] at h
  unfold I64; omega
theorem cs_one {W : World} {v : Value} {T : Ty} (h1 : v.oneCell' = true) (h : T.holds (foot []) W v) : CsAt W [v] [T] := ⟨rfl, fun j U hU => by
  match j with
  | 0 => cases hU; exact ⟨v, rfl, h1, h⟩
  | j + 1 => simp at hU⟩
theorem reads_int {t : TypeId} (ht : Tryd.prog.underlying t = some (.int .i64)) : Reads t lI I64 := fun h _ => by
  rename_i fuel cs d ps
  obtain ⟨n, rfl, hx, hw⟩ := DataW.trod_int ht h
  exact ⟨n, i64_wf hw, cs_one rfl rfl⟩
theorem reads_bool {t : TypeId} (ht : Tryd.prog.underlying t = some .bool) : Reads t lB (fun _ => True) := fun h _ => by
  rename_i fuel cs d ps
  obtain ⟨b, rfl, hx⟩ := DataW.trod_bool ht h
  exact ⟨b, trivial, cs_one rfl rfl⟩

theorem choose_list {α : Type} {p : Nat → α → Prop} : ∀ (n : Nat), (∀ i, i < n → ∃ x, p i x) → ∃ l : List α, l.length = n ∧ ∀ (i : Nat) (x : α), l[i]? = some x → p i x
  | 0, _ => ⟨[], rfl, fun i x h => by simp at h⟩
  | n + 1, h => by
    obtain ⟨l, h1, h2⟩ := choose_list n (fun i hi => h i (by omega))
    obtain ⟨x, hx⟩ := h n (by omega)
    refine ⟨l ++ [x], by simp [h1], fun i y hy => ?_⟩
    rw [List.getElem?_append] at hy
    split at hy
    · exact h2 i y hy
    · rename_i hi
      have : i = n := by have := (List.getElem?_eq_some_iff.1 hy).1; simp at this; omega
      subst this
      simp [h1] at hy
      subst hy; exact hx
/-- The bytes that a slice may take. -/
def lenOk {α : Type} (bytes : Nat) (l : List α) : Prop := l.length * bytes ≤ reachBytes ∧ l.length ≤ maxLen
theorem weights_all {H : Type} {e : TypeId} {d : DataW H} : ∀ {l : List (DataW H)}, d ∈ l → ∀ n, n ∈ d.weights Tryd.prog e → n ∈ DataW.weightsAll Tryd.prog e l
  | x :: l, hd, n, hn => by
    simp only [DataW.weightsAll, List.mem_append]
    rcases List.mem_cons.1 hd with rfl | q
    · exact .inl hn
    · exact .inr (weights_all q n hn)
theorem reads_slice {α : Type} {t e : TypeId} {f : α → List Ty} {ok : α → Prop} {sz bytes : Nat} (ht : Tryd.prog.underlying t = some (.slice e)) (hsz : Tryd.prog.cellsOf e = sz) (hby : Tryd.prog.bytesOf e = bytes) (hf : ∀ x, (f x).length = sz) (he : Reads e f ok) :
    Reads t (fun l : List α => [tL sz f l]) (fun l => lenOk bytes l ∧ ∀ x, x ∈ l → ok x) := fun h hwt => by
  rename_i H enc W base sp held fuel cs d ps
  rcases DataW.trod_slice ht h with ⟨rfl, hx⟩ | ⟨a, len, cap, elems, rest, n, _, rfl, hx, _, hl, hm, hlen, hel, _⟩
  · exact ⟨[], ⟨⟨by simp, by simp⟩, fun x hx => by cases hx⟩, cs_one rfl ⟨none, 0, rfl, Nat.le_refl _, fun i es hi => by simp at hi⟩⟩
  · simp only [Prod.mk.injEq] at hx
    obtain ⟨rfl, _⟩ := hx
    have hw1 : (len + rest.length) * bytes ≤ reachBytes := by
      have := hwt ((len + rest.length) * bytes) (by simp [DataW.weights, ht, hby, hlen])
      exact this
    obtain ⟨l, h1, h2⟩ := choose_list (p := fun i x => ok x ∧ ∃ c, W.cells? base (a.add (i * sz)) sz = some c ∧ CsAt W c (f x)) len (fun i hi => by
      have h3 := hel i hi
      rw [hsz] at h3
      have hlt : i < elems.length := by omega
      rw [List.getElem?_eq_getElem hlt] at h3
      obtain ⟨c, hc1, hc2⟩ := Option.bind_eq_some_iff.1 h3
      obtain ⟨x, hx1, hx2⟩ := he (d := (elems[i]).1) (ps := (elems[i]).2) hc2 (fun n hn => hwt n (by
        simp only [DataW.weights, ht, List.mem_cons, List.mem_append]
        exact .inr (.inl (weights_all (List.mem_map.2 ⟨_, List.getElem_mem hlt, rfl⟩) n hn))))
      exact ⟨x, hx1, c, hc1, hx2⟩)
    refine ⟨l, ⟨⟨Nat.le_trans (Nat.mul_le_mul_right _ (by omega)) hw1, by omega⟩, fun x hx => ?_⟩, cs_one rfl ⟨some a, cap, by simp [h1], by simpa [h1] using hl, fun i es hi => ?_⟩⟩
    · obtain ⟨i, hi⟩ := List.mem_iff_getElem?.1 hx
      exact (h2 i x hi).1
    · simp only [List.getElem?_map, Option.map_eq_some_iff] at hi
      obtain ⟨x, hx, rfl⟩ := hi
      obtain ⟨_, c, hc1, hc2, hc3⟩ := h2 i x hx
      obtain ⟨_, hc4, hc5⟩ := World.cells?_some hc1
      refine ⟨hf x, a, rfl, fun j T hT => ⟨foot_nil _, ?_⟩⟩
      obtain ⟨v, hv1, hv2, hv3⟩ := hc3 j T hT
      have hj : j < sz := by rw [← hf x]; exact (List.getElem?_eq_some_iff.1 hT).1
      exact ⟨v, by rw [hc5 j hj]; exact hv1, hv2, hv3⟩

/-! ### Structs, field by field -/
theorem cs_step {W : World} {cs : List Value} {o s : Nat} {ts us : List Ty} (h : CsAt W ((cs.drop o).take s) ts) (hs : ts.length = s) (k : CsAt W (cs.drop (o + s)) us) : CsAt W (cs.drop o) (ts ++ us) := by
  have hle : s ≤ (cs.drop o).length := by
    have := h.1; rw [List.length_take] at this; omega
  have e : cs.drop o = (cs.drop o).take s ++ cs.drop (o + s) := by rw [← List.drop_drop, List.take_append_drop]
  refine ⟨by rw [List.length_append, k.1, hs]; simp only [List.length_drop] at hle ⊢; omega, fun j T hT => ?_⟩
  rw [List.getElem?_append] at hT
  rw [e, List.getElem?_append]
  have hl : ((cs.drop o).take s).length = s := by rw [List.length_take]; omega
  split at hT
  · rename_i hj
    rw [if_pos (by omega)]
    exact h.2 j T hT
  · rename_i hj
    rw [if_neg (by omega), hl]
    rw [hs] at hT
    exact k.2 _ T hT
theorem cs_end {W : World} {cs : List Value} {o : Nat} (h : cs.length = o) : CsAt W (cs.drop o) [] := ⟨by simp [h], fun j T hT => by simp at hT⟩
theorem list_1 {α : Type} {l : List α} (h : l.length = 1) : ∃ a, l = [a] := by match l, h with | [a], _ => exact ⟨a, rfl⟩
theorem list_2 {α : Type} {l : List α} (h : l.length = 2) : ∃ a b, l = [a, b] := by match l, h with | [a, b], _ => exact ⟨a, b, rfl⟩
theorem list_3 {α : Type} {l : List α} (h : l.length = 3) : ∃ a b c, l = [a, b, c] := by match l, h with | [a, b, c], _ => exact ⟨a, b, c, rfl⟩
theorem list_5 {α : Type} {l : List α} (h : l.length = 5) : ∃ a b c d e, l = [a, b, c, d, e] := by match l, h with | [a, b, c, d, e], _ => exact ⟨a, b, c, d, e, rfl⟩

/-! ### The arguments -/
theorem arg_one {α : Type} {t : TypeId} {T : α → Ty} {ok : α → Prop} (hr : Reads t (fun x => [T x]) ok) {H : Type} {enc : TypeId × Value → H} {W : World} {v : Value} {d : DataW H} {ps : List MemPlace}
    (h1 : v.oneCell' = true) (h : DataW.Trod enc Tryd.prog W 0 (fun _ => true) true t v d ps) (hw : ∀ n ∈ d.weights Tryd.prog t, n ≤ reachBytes) : ∃ x, ok x ∧ (T x).holds (foot []) W v := by
  obtain ⟨fuel, hf⟩ := h
  have hc : v.cells = #[v] := by cases v <;> simp_all [Value.cells, Value.oneCell']
  rw [hc] at hf
  obtain ⟨x, hx, hx2⟩ := hr hf hw
  obtain ⟨u, hu, _, hv⟩ := hx2.2 0 (T x) rfl
  simp at hu; subst hu
  exact ⟨x, hx, hv⟩
theorem arg_agg {α : Type} {t : TypeId} {f : α → List Ty} {ok : α → Prop} (hr : Reads t f ok) {H : Type} {enc : TypeId × Value → H} {W : World} {v : Value} {d : DataW H} {ps : List MemPlace}
    (hv : ∃ cs, v = .agg cs ∧ cs.size = Tryd.prog.cellsOf t) (h : DataW.Trod enc Tryd.prog W 0 (fun _ => true) true t v d ps) (hw : ∀ n ∈ d.weights Tryd.prog t, n ≤ reachBytes) : ∃ x, ok x ∧ (Ty.agg (f x)).holds (foot []) W v := by
  obtain ⟨fuel, hf⟩ := h
  obtain ⟨cs, rfl, _⟩ := hv
  obtain ⟨x, hx, hx1, hx2⟩ := hr hf hw
  simp only [Value.cells] at hx1 hx2
  exact ⟨x, hx, cs, rfl, by simpa using hx1.symm, fun j T hT => by
    obtain ⟨u, hu, h1, h2⟩ := hx2 j T hT
    exact ⟨u, by simpa using hu, h1, h2⟩⟩
theorem weights_each {H : Type} {ts : List TypeId} {ds gs : List (DataW H)} (h : (DataW.weightsEach Tryd.prog (ts ++ gs.map (fun _ => 0)) (ds ++ gs)).all (· ≤ reachBytes) = true) : True := trivial
theorem weights_cons {H : Type} {t : TypeId} {ts : List TypeId} {d : DataW H} {ds : List (DataW H)} (h : (DataW.weightsEach Tryd.prog (t :: ts) (d :: ds)).all (· ≤ reachBytes) = true) :
    (∀ n ∈ d.weights Tryd.prog t, n ≤ reachBytes) ∧ (DataW.weightsEach Tryd.prog ts ds).all (· ≤ reachBytes) = true := by
  simp only [DataW.weightsEach, List.all_append, Bool.and_eq_true] at h
  exact ⟨fun n hn => by simpa using List.all_eq_true.1 h.1 n hn, h.2⟩
theorem laid_out : laidOutB Tryd.prog = true := by kernel_rfl
/-- An argument reads as it did. -/
theorem arg_stays {H : Type} {enc : TypeId × Value → H} {W W' : World} {t : TypeId} {v : Value} {d : DataW H} {ps : List MemPlace} (hr : Tryd.prog.readableRec t = true) (ht : t < Tryd.prog.types.size) (hl : Le (foot ([] ++ [])) W (foot ([] ++ [])) W')
    (h : DataW.Trod enc Tryd.prog W 0 (fun _ => true) true t v d ps) (sp : Nat → Bool) (hs : ∀ p ∈ ps, sp p.block = true) (hlt : ∀ p ∈ ps, p.block < W.heap.size) : DataW.Trod enc Tryd.prog W' 0 sp true t v d ps :=
  WideElems.Trod_stays laid_out hr ht h (fun p hp => by
    have h1 := (hl.block p.block (hlt p hp) (foot_nil _)).2
    cases p with
    | cell b off => exact World.cell?_of_block (a := ⟨b, off, none⟩) h1
    | map b => exact h1) hs
end Go.Proofs.YtocfnpnnbmicmaaDoor.Tc
