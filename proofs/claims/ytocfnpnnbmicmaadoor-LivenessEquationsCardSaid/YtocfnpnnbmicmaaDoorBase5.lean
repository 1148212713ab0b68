/- The typing calculus: rows that are appended to, stored into, made, handed on; calls and the way in and out of a function; regions whose order is open. -/
import Derived.Test.YtocfnpnnbmicmaaDoorBase4
set_option linter.unusedVariables false
set_option linter.unusedSimpArgs false
namespace Go.Proofs.YtocfnpnnbmicmaaDoor.Tc
open Go Go.RowKit

/-- What the table says of an element type: its zero, cells, bytes. -/
structure ElTy (P : Program) (t e : TypeId) (z : Value) (sz bytes : Nat) : Prop where
  sl : P.underlying t = some (.slice e)
  info : ∃ i, P.info? e = some i ∧ i.zero = some z ∧ i.size = sz ∧ i.bytes = bytes
  zc : z.cells.size = sz
  pos : 0 < sz
theorem ElTy.run {P : Program} {t e : TypeId} {z : Value} {sz bytes : Nat} (h : ElTy P t e z sz bytes) : ∀ w, (sizeOf e).run P w = .ok sz w := by
  obtain ⟨i, hi, _, h2, _⟩ := h.info
  intro w; simp [sizeOf, typeInfo, hi, h2]
theorem ElTy.mk' {P : Program} {t e : TypeId} {z : Value} {sz bytes : Nat} (h1 : P.underlying t = some (.slice e)) (h2 : (P.info? e).map (fun i => (i.zero, i.size, i.bytes)) = some (some z, sz, bytes)) (h3 : z.cells.size = sz) (h4 : 0 < sz) : ElTy P t e z sz bytes := by
  refine ⟨h1, ?_, h3, h4⟩
  cases hi : P.info? e with
  | none => rw [hi] at h2; cases h2
  | some i =>
    rw [hi] at h2
    simp only [Option.map_some, Option.some.injEq, Prod.mk.injEq] at h2
    exact ⟨i, rfl, h2.1, h2.2.1, h2.2.2⟩

theorem row_one {v : Value} {e : TypeId} {sz : Nat} {ess : List (List Ty)} {M : Fb} {w : World} (h : RowAt v e sz ess M w) : v.oneCell' = true := by
  rcases h with ⟨rfl, _⟩ | ⟨g, cap, cur, rfl, _⟩ <;> rfl
theorem row_len {v : Value} {e : TypeId} {sz : Nat} {ess : List (List Ty)} {M : Fb} {w : World} (h : RowAt v e sz ess M w) : ∃ A c, v = .slice A ess.length c := by
  rcases h with ⟨rfl, rfl⟩ | ⟨g, cap, cur, rfl, _⟩
  · exact ⟨_, _, rfl⟩
  · exact ⟨_, _, rfl⟩

/-- The cells of a list of elements. -/
theorem els_flat {sz : Nat} : ∀ {ess : List (List Ty)}, (∀ es, es ∈ ess → es.length = sz) → ∀ (i j : Nat), j < sz → ess.flatten[i * sz + j]? = (ess[i]?).bind (·[j]?)
  | [], _, i, j, _ => by simp
  | es :: ess, h, i, j, hj => by
    have h0 := h es (by simp)
    rw [List.flatten_cons, List.getElem?_append]
    cases i with
    | zero => simp [h0, hj]
    | succ i =>
      rw [if_neg (by rw [h0, Nat.add_mul]; omega), h0]
      have := els_flat (ess := ess) (fun es hes => h es (by simp [hes])) i j hj
      rw [show (i + 1) * sz + j - sz = i * sz + j by rw [Nat.add_mul]; omega, this]
      simp
theorem flat_len {sz : Nat} : ∀ {ess : List (List Ty)}, (∀ es, es ∈ ess → es.length = sz) → ess.flatten.length = ess.length * sz
  | [], _ => by simp
  | es :: ess, h => by
    rw [List.flatten_cons, List.length_append, flat_len (fun es hes => h es (by simp [hes])), h es (by simp), List.length_cons, Nat.add_mul]; omega
theorem els_of {sz : Nat} {ess : List (List Ty)} {M : Fb} {w : World} {cur : Array Value} (h : ElsAt sz ess M w cur) : ∀ es, es ∈ ess → es.length = sz := fun es hes => by
  obtain ⟨i, hi⟩ := List.mem_iff_getElem?.1 hes
  exact (h i es hi).1
/-- An array whose first cells are the elements' cells. -/
theorem els_arr {sz : Nat} {ess : List (List Ty)} {M : Fb} {w : World} {cur : Array Value} (hp : 0 < sz) (h : ElsAt sz ess M w cur) : ∀ (j : Nat) (t : Ty), ess.flatten[j]? = some t → ∃ u, cur[j]? = some u ∧ u.oneCell' = true ∧ t.holds M w u := by
  intro j t ht
  have hj : j = j / sz * sz + j % sz := (Nat.div_add_mod' j sz).symm
  have hlt : j % sz < sz := Nat.mod_lt _ hp
  rw [hj, els_flat (els_of h) _ _ hlt] at ht
  cases he : ess[j / sz]? with
  | none => rw [he] at ht; cases ht
  | some es =>
    rw [he] at ht
    obtain ⟨u, hu⟩ := (h _ es he).2 (j % sz) t ht
    rw [← hj] at hu
    exact ⟨u, hu⟩
theorem arr_els {sz : Nat} {ess : List (List Ty)} {M : Fb} {w : World} {cur : Array Value} (hl : ∀ es, es ∈ ess → es.length = sz) (h : ∀ (j : Nat) (t : Ty), ess.flatten[j]? = some t → ∃ u, cur[j]? = some u ∧ u.oneCell' = true ∧ t.holds M w u) : ElsAt sz ess M w cur := by
  intro i es hi
  refine ⟨hl es (List.mem_of_getElem? hi), fun j t ht => ?_⟩
  have hj : j < sz := by have := (List.getElem?_eq_some_iff.1 ht).1; rw [hl es (List.mem_of_getElem? hi)] at this; exact this
  exact h _ t (by rw [els_flat hl _ _ hj, hi]; exact ht)

/-- A slice that is read, as a list of cells. -/
theorem sl_cells {sz : Nat} {ess : List (List Ty)} {M : Fb} {w : World} {v : Value} (hp : 0 < sz) (h : (Ty.slice sz ess).holds M w v) :
    ∃ A c, v = .slice A ess.length c ∧ (∀ es, es ∈ ess → es.length = sz) ∧ ∃ cs : List Value, cs.length = ess.length * sz ∧ (ess ≠ [] → ∃ a, A = some a ∧ ∀ j u, cs[j]? = some u → w.cell? (a.add j) = some u) ∧ ArrAt ess.flatten M w cs.toArray := by
  obtain ⟨A, c, hv, hc, he⟩ := h
  have hl : ∀ es, es ∈ ess → es.length = sz := fun es hes => by
    obtain ⟨i, hi⟩ := List.mem_iff_getElem?.1 hes
    exact (he i es hi).1
  refine ⟨A, c, hv, hl, ?_⟩
  cases hess : ess with
  | nil => exact ⟨[], by simp, fun h => absurd rfl h, ⟨by simp, fun j t ht => by simp at ht⟩⟩
  | cons es0 ess0 =>
    obtain ⟨_, a, rfl, _⟩ := he 0 es0 (by rw [hess]; rfl)
    have hpt : PtAt M w a ess.flatten := by
      intro j t ht
      have hj : j = j / sz * sz + j % sz := (Nat.div_add_mod' j sz).symm
      have hlt : j % sz < sz := Nat.mod_lt _ hp
      rw [hj, els_flat hl _ _ hlt] at ht
      cases hi : ess[j / sz]? with
      | none => rw [hi] at ht; cases ht
      | some es =>
        rw [hi] at ht
        obtain ⟨_, a', ha', hq⟩ := he _ es hi
        cases ha'
        obtain ⟨h1, u, hu⟩ := hq (j % sz) t ht
        rw [add_add, ← hj] at hu
        exact ⟨by rw [add_block] at h1; exact h1, u, hu⟩
    obtain ⟨cs, h1, h2, h3⟩ := hpt.cells
    rw [← hess]
    exact ⟨cs, by rw [h1, flat_len hl], fun _ => ⟨a, rfl, h2⟩, h3⟩

section
variable {κ : Kx} {Q : Post} {Γ : Cx} {L : List Item} {ops : Array Oper} {rest : List Oper}
variable {dst : Option Nat} {ty : TypeId} {pos : String} {after : Array Edge}

/-- append onto what the call owns. -/
theorem run_append_row {P : Program} {t e ty : TypeId} {z : Value} {sz bytes : Nat} (hE : ElTy P t e z sz bytes) {gl : Gl} {L : List Item} {w : World} {v x : Value} {ess fss : List (List Ty)} (h : Holds gl L w) (n : Nat) (hi : L[n]? = some (Item.row v e sz ess))
    (hx : (Ty.slice sz fss).holds (foot L) w x) (hb : (ess.length + fss.length) * bytes ≤ 140737488355328) (hm : ess.length + fss.length ≤ maxLen) :
    ∃ v' w', (Builtin.append_ #[t, t] ty #[v, x]).run P w = .ok v' w' ∧ Holds gl (L.set n (Item.row v' e sz (ess ++ fss))) w' ∧ Le (foot L) w (foot (L.set n (Item.row v' e sz (ess ++ fss)))) w' ∧ v'.oneCell' = true := by
  obtain ⟨i, hi1, hi2, hi3, hi4⟩ := hE.info
  obtain ⟨A, c, rfl, hfl, cs, hcl, hcc, hca⟩ := sl_cells hE.pos hx
  have hrow : RowAt v e sz ess (foot L) w := h.each _ (List.mem_of_getElem? hi)
  by_cases hf : fss = []
  · subst hf
    have hr : (Builtin.append_ #[t, t] ty #[v, .slice A 0 c]).run P w = .ok v w := by
      rcases hrow with ⟨rfl, rfl⟩ | ⟨g, cap, cur, rfl, hg, h1, h2, h3, h4⟩
      · cases A with
        | none => simp [Builtin.append_, run_underlying hE.sl, sizeOf, typeInfo, hi1, Builtin.lenOf, Builtin.firstCells]
        | some a => simp [Builtin.append_, run_underlying hE.sl, sizeOf, typeInfo, hi1, Builtin.lenOf, Builtin.firstCells, loadCells, loadCellsFrom]
      · cases A with
        | none => simp [Builtin.append_, run_underlying hE.sl, sizeOf, typeInfo, hi1, Builtin.lenOf, Builtin.firstCells, h1, storeCells]
        | some a => simp [Builtin.append_, run_underlying hE.sl, sizeOf, typeInfo, hi1, Builtin.lenOf, Builtin.firstCells, h1, storeCells, loadCells, loadCellsFrom]
    refine ⟨v, w, hr, ?_⟩
    have := h.swapAt (i' := Item.row v e sz (ess ++ [])) hi (Nat.le_refl _) rfl rfl rfl (fun _ _ _ => rfl) (fun b hb => .inl hb) (fun M hl => by
      rw [List.append_nil]; exact (Item.row v e sz ess).stable hrow (fun _ _ _ => rfl) hl)
    exact ⟨this.1, this.2, row_one hrow⟩
  · obtain ⟨a, rfl, hcells⟩ := hcc hf
    have hall : ∀ u ∈ cs, u.oneCell' = true := by have := arr_one hca; simpa using this
    have hown : ∃ xs, w.ownsRow 0 e sz v ess.length xs ∧ ElsAt sz ess (foot L) w xs.toArray ∧ xs.length = ess.length * sz := by
      rcases hrow with ⟨rfl, rfl⟩ | ⟨g, cap, cur, rfl, hg, h1, h2, h3, h4⟩
      · exact ⟨[], ⟨by simp, .inl ⟨rfl, rfl⟩⟩, fun i es he => by simp at he, by simp⟩
      · have hle : ess.length * sz ≤ cap * sz := Nat.mul_le_mul_right _ h1
        refine ⟨cur.toList.take (ess.length * sz), ⟨by simp; omega, .inr ⟨g, cap, cur, rfl, Nat.zero_le _, hg, h1, h2, h3, rfl⟩⟩, fun i es he => ⟨(h4 i es he).1, fun j T hT => ?_⟩, by simp; omega⟩
        obtain ⟨u, hu, hu2⟩ := (h4 i es he).2 j T hT
        refine ⟨u, ?_, hu2⟩
        have hil : i < ess.length := (List.getElem?_eq_some_iff.1 he).1
        have hjl : j < sz := by have := (List.getElem?_eq_some_iff.1 hT).1; rw [(h4 i es he).1] at this; exact this
        have : i * sz + j < ess.length * sz := by
          have h6 : (i + 1) * sz ≤ ess.length * sz := Nat.mul_le_mul_right _ hil
          rw [Nat.add_mul] at h6; omega
        simp only [List.getElem?_toArray, List.getElem?_take, if_pos this]
        simpa using hu
    obtain ⟨xs, hown, hels, hxl⟩ := hown
    obtain ⟨v', w', hrun, hown', hgr, _, hblk⟩ := run_append_own_at (P := P) w 0 t ty e i z sz bytes hE.sl hi1 hi2 hi3 hi4 hE.zc hE.pos v ess.length xs hown a fss.length c cs hcl hcells hall hm hb (Nat.zero_le _)
    refine ⟨v', w', hrun, ?_⟩
    have hfoot : ∀ b, (Item.row v' e sz (ess ++ fss)).foot b → (Item.row v e sz ess).foot b ∨ w.heap.size ≤ b := by
      intro b hb
      have hb' : v'.ownBlock = some b := hb
      rcases hblk with q | q
      · exact .inl (by rw [q] at hb'; exact hb')
      · right; rw [q] at hb'; cases hb'; exact Nat.le_refl _
    have hsw := h.swapAt (i' := Item.row v' e sz (ess ++ fss)) hi hgr.size hgr.os hgr.tape hgr.output (fun b hb hnb => hgr.block b hb (fun q => hnb q.symm)) hfoot (fun M hl => by
      rcases hown'.2 with ⟨rfl, hz⟩ | ⟨g, cap, cur, rfl, _, hg, h1, h2, h3, h4⟩
      · have : fss.length = 0 := by omega
        exact absurd (List.eq_nil_of_length_eq_zero this) hf
      · refine .inr ⟨g, cap, cur, by simp, hg, by simpa using h1, h2, h3, ?_⟩
        have hel : ∀ es, es ∈ ess ++ fss → es.length = sz := fun es hes => by
          rcases List.mem_append.1 hes with q | q
          · exact els_of hels es q
          · exact hfl es q
        refine arr_els hel fun j T hT => ?_
        rw [List.flatten_append, List.getElem?_append, flat_len (els_of hels)] at hT
        have hcur : ∀ u, (xs ++ cs)[j]? = some u → cur[j]? = some u := fun u hu => by
          rw [← h4, List.getElem?_take] at hu
          split at hu
          · simpa using hu
          · cases hu
        split at hT
        · rename_i hj
          obtain ⟨u, hu, hu1, hu2⟩ := els_arr hE.pos hels j T hT
          exact ⟨u, hcur u (by rw [List.getElem?_append, if_pos (by omega)]; simpa using hu), hu1, T.mono hu2 hl⟩
        · rename_i hj
          obtain ⟨u, hu, hu1, hu2⟩ := hca.2 _ T hT
          exact ⟨u, hcur u (by rw [List.getElem?_append, if_neg (by omega), hxl]; simpa using hu), hu1, T.mono hu2 hl⟩)
    refine ⟨hsw.1, hsw.2, ?_⟩
    rcases hown'.2 with ⟨rfl, _⟩ | ⟨g, cap, cur, rfl, _⟩ <;> rfl

/-- xs ++ ys, or nothing where it would be too large. -/
def app {α : Type} (bytes : Nat) (xs ys : List α) : Option (List α) := if (xs.length + ys.length) * bytes ≤ 140737488355328 ∧ xs.length + ys.length ≤ maxLen then some (xs ++ ys) else none
theorem doesO_append {gd : Option (Nat × Bool)} {C : Ty → List Item → Prop} {t e : TypeId} {z : Value} {sz bytes : Nat} {α : Type} {f : α → List Ty} {l m : List α} {s x : Operand} {v : Value} (hE : ElTy κ.P t e z sz bytes) (n : Nat) (r : List α) (L' : Value → List Item) (hr : app bytes l m = some r)
    (hs : opTy Γ s = some (Ty.own v)) (hi : L[n]? = some (rowL v e sz f l)) (hx : opTy Γ x = some (tL sz f m)) (hL : ∀ v', L' v' = L.set n (rowL v' e sz f r))
    (h : ∀ v', C (Ty.own v') (L' v')) : DoesO κ ⟨dst, .call ⟨.builtin .append, #[s, x], #[t, t]⟩, ty, pos, after, gd⟩ Γ L C :=
  doesO_run fun a w st => by
    have h1 : a.eval s = v := (opTy_holds st.env hs).1
    unfold app at hr
    split at hr
    · rename_i hb
      cases hr
      obtain ⟨v', w', hrun, hh, hl, ho⟩ := run_append_row (ty := ty) hE st.holds n hi (opTy_holds st.env hx) (by simpa using hb.1) (by simpa using hb.2)
      have e1 : L' v' = L.set n (Item.row v' e sz (l.map f ++ m.map f)) := by rw [hL v', ← List.map_append]
      exact ⟨v', w', Ty.own v', L' v', by simp [execOp, resolve, invoke, builtin, h1, hrun], e1 ▸ hh, e1 ▸ hl, ⟨rfl, ho⟩, h v'⟩
    · cases hr
theorem doesO_appendN {gd : Option (Nat × Bool)} {C : Ty → List Item → Prop} {t e : TypeId} {z : Value} {sz bytes : Nat} {α : Type} {f : α → List Ty} {m : List α} {s x : Operand} (hE : ElTy κ.P t e z sz bytes) (r : List α) (hr : app bytes [] m = some r)
    (hs : opTy Γ s = some (Ty.val (.slice none 0 0))) (hx : opTy Γ x = some (tL sz f m))
    (h : ∀ v', C (Ty.own v') (rowL v' e sz f r :: L)) : DoesO κ ⟨dst, .call ⟨.builtin .append, #[s, x], #[t, t]⟩, ty, pos, after, gd⟩ Γ L C :=
  doesO_run fun a w st => by
    have h1 : a.eval s = .slice none 0 0 := opTy_holds st.env hs
    unfold app at hr
    split at hr
    · rename_i hb
      cases hr
      have hn := st.holds.new (i' := rowL (.slice none 0 0) e sz f []) (Nat.le_refl _) rfl rfl rfl (fun _ _ => rfl) (fun b hb => by have hb' : (Value.slice none 0 0).ownBlock = some b := hb; simp [Value.ownBlock] at hb') (fun M hl _ _ => .inl ⟨rfl, rfl⟩)
      obtain ⟨v', w', hrun, hh, hl, ho⟩ := run_append_row (ty := ty) hE hn.1 0 rfl ((tL sz f m).mono (opTy_holds st.env hx) hn.2) (by simpa using hb.1) (by simpa using hb.2)
      exact ⟨v', w', Ty.own v', rowL v' e sz f ([] ++ m) :: L, by simp [execOp, resolve, invoke, builtin, h1, hrun], by simpa using hh, hn.2.trans (by simpa using hl), ⟨rfl, ho⟩, h v'⟩
    · cases hr
/-- A nil slice becomes a row of the call's own. -/
theorem okL_nilrow {sz : Nat} {α : Type} (f : α → List Ty) (e : TypeId) (t : Nat) (ht : Γ.look t = some (Ty.val (.slice none 0 0))) (h : OkL κ ops Q rest ((t, Ty.own (.slice none 0 0)) :: Γ) (rowL (.slice none 0 0) e sz f [] :: L)) {l : List Oper} (hl : l = rest) : OkL κ ops Q l Γ L := fun a w s => by
  subst hl
  have hn := s.holds.new (i' := rowL (.slice none 0 0) e sz f []) (Nat.le_refl _) rfl rfl rfl (fun _ _ => rfl) (fun b hb => by have hb' : (Value.slice none 0 0).ownBlock = some b := hb; simp [Value.ownBlock] at hb') (fun M hl _ _ => .inl ⟨rfl, rfl⟩)
  refine h a w ⟨s.defers, s.size, hn.1, s.le.trans hn.2, fun i U hi => ?_⟩
  simp only [Cx.look] at hi
  split at hi
  · rename_i hk; cases hi; subst hk; exact ⟨s.env _ _ ht, by rw [show a.tmps.getD t undef = _ from s.env _ _ ht]; rfl⟩
  · exact U.mono (s.env _ _ hi) hn.2
end
end Go.Proofs.YtocfnpnnbmicmaaDoor.Tc
