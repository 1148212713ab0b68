/- The typing calculus: what is lent for one call; functions that keep what they are handed; results in cells. -/
import Derived.Test.YtocfnpnnbmicmaaDoorBase12
set_option linter.unusedVariables false
set_option linter.unusedSimpArgs false
namespace Go.Proofs.YtocfnpnnbmicmaaDoor.Tc
open Go Go.RowKit

/-- A reading that hangs on nothing but the value. -/
def Ty.Exact (T : Ty) : Prop := ∀ M M' w w' v, T.holds M w v → T.holds M' w' v
theorem ex_val (v : Value) : (Ty.val v).Exact := fun _ _ _ _ _ h => h
theorem ex_own (v : Value) : (Ty.own v).Exact := fun _ _ _ _ _ h => h
theorem ex_tup0 : (Ty.tup []).Exact := fun _ _ _ _ _ ⟨cs, e, h0, h⟩ => ⟨cs, e, h0, fun j t ht => by simp at ht⟩
theorem ex_tup2 {a b : Ty} (ha : a.Exact) (hb : b.Exact) : (Ty.tup [a, b]).Exact := fun _ _ _ _ _ ⟨cs, e, h0, h⟩ => ⟨cs, e, h0, fun j t ht => by
  obtain ⟨u, hu, hv⟩ := h j t ht
  refine ⟨u, hu, ?_⟩
  match j with
  | 0 => cases ht; exact ha _ _ _ _ _ hv
  | 1 => cases ht; exact hb _ _ _ _ _ hv
  | j + 2 => simp at ht⟩
def ExL (ts : List Ty) : Prop := ∀ t, t ∈ ts → t.Exact
theorem exl_nil : ExL [] := fun t h => by cases h
theorem exl_cons {t : Ty} {ts : List Ty} (h : t.Exact) (hr : ExL ts) : ExL (t :: ts) := fun u hu => by
  rcases List.mem_cons.1 hu with rfl | q
  · exact h
  · exact hr u q
theorem arr_ex {ts : List Ty} {M M' : Fb} {w w' : World} {cs : Array Value} (he : ExL ts) (h : ArrAt ts M w cs) : ArrAt ts M' w' cs :=
  ⟨h.1, fun j t ht => let ⟨u, hu, h1, hv⟩ := h.2 j t ht; ⟨u, hu, h1, he t (List.mem_of_getElem? ht) _ _ _ _ _ hv⟩⟩
/-- An item whose cells hang on no other block. -/
def Item.Exact (it : Item) : Prop := ∀ M M' w, it.hold M w → it.hold M' w
theorem ex_row {α : Type} {v : Value} {e : TypeId} {sz : Nat} {f : α → List Ty} {l : List α} (hf : ∀ y, ExL (f y)) : (rowL v e sz f l).Exact := fun M M' w h => by
  rcases h with h | ⟨g, cap, cur, rfl, hg, h1, h2, h3, h4⟩
  · exact .inl h
  · refine .inr ⟨g, cap, cur, rfl, hg, h1, h2, h3, fun i es hi => ⟨(h4 i es hi).1, fun j t ht => ?_⟩⟩
    obtain ⟨u, hu, hu1, hv⟩ := (h4 i es hi).2 j t ht
    obtain ⟨y, _, rfl⟩ := List.mem_map.1 (List.mem_of_getElem? hi)
    exact ⟨u, hu, hu1, hf y t (List.mem_of_getElem? ht) _ _ _ _ _ hv⟩
theorem ex_blk {g : Nat} {e : TypeId} {ts : List Ty} (he : ExL ts) : (Item.blk g e ts).Exact := fun M M' w ⟨cs, hg, ha⟩ => ⟨cs, hg, arr_ex he ha⟩
theorem exI (y : Int) : ExL (lI y) := exl_cons (ex_val _) exl_nil
theorem exU (y : Int) : ExL (lU y) := exl_cons (ex_val _) exl_nil
theorem exB (y : Bool) : ExL (lB y) := exl_cons (ex_val _) exl_nil
inductive ExIts : List Item → Prop where
  | nil : ExIts []
  | cons {it : Item} {L : List Item} (h : it.Exact) (hr : ExIts L) : ExIts (it :: L)
theorem ExIts.at {L : List Item} (h : ExIts L) : ∀ it, it ∈ L → it.Exact := by
  induction h with
  | nil => intro it hi; cases hi
  | cons h _ ih =>
    intro it hi
    rcases List.mem_cons.1 hi with rfl | q
    · exact h
    · exact ih it q

theorem foot_nil (b : Nat) : ¬ foot [] b := fun ⟨_, h, _⟩ => by cases h
theorem front_holds {gl : Gl} {Lin Lr : List Item} {w : World} (h : Holds gl (Lin ++ Lr) w) : Holds gl (Lin ++ []) w := by
  rw [List.append_nil]
  exact (h.perm List.perm_append_comm).drop_front Lr
theorem frame_back {gl : Gl} {Lin Lo Lr : List Item} {w w' : World} (h : Holds gl (Lin ++ Lr) w) (h1 : Holds gl (Lo ++ []) w') (hl : Le (foot (Lin ++ [])) w (foot (Lo ++ [])) w') (he : ExIts Lo) :
    Holds gl (Lo ++ Lr) w' ∧ Le (foot (Lin ++ Lr)) w (foot (Lo ++ Lr)) w' := by
  rw [List.append_nil] at h1 hl
  rw [List.append_nil] at hl
  have hap := List.pairwise_append.1 h.apart
  have hLr : ∀ it, it ∈ Lr → ∀ b, it.foot b → b < w.heap.size ∧ ¬ foot Lin b := fun it hi b hb =>
    ⟨foot_lt h ⟨it, List.mem_append.2 (.inr hi), hb⟩, fun ⟨i2, h2, hb2⟩ => hap.2.2 i2 h2 it hi b hb2 hb⟩
  have hle : Le (foot (Lin ++ Lr)) w (foot (Lo ++ Lr)) w' := ⟨hl.size, hl.os, hl.tape, hl.output, fun b hb hm => by
    have h2 : ¬ foot Lin b := fun q => hm ((foot_append _ _ b).2 (.inl q))
    have h3 : ¬ foot Lr b := fun q => hm ((foot_append _ _ b).2 (.inr q))
    obtain ⟨h4, h5⟩ := hl.block b hb h2
    exact ⟨fun q => ((foot_append _ _ b).1 q).elim h4 h3, h5⟩⟩
  refine ⟨⟨fun it hi => ?_, List.pairwise_append.2 ⟨h1.apart, hap.2.1, fun a ha c hc b hb hb' => ?_⟩, fun g t hg => (h.glob g t hg).mono hle⟩, hle⟩
  · rcases List.mem_append.1 hi with q | q
    · exact he.at it q _ _ _ (h1.each it q)
    · exact it.stable (h.each it (List.mem_append.2 (.inr q))) (fun b hb hf => (hl.block b hb (hLr it q b hf).2).2) hle
  · obtain ⟨h2, h3⟩ := hLr c hc b hb'
    exact (hl.block b h2 h3).1 ⟨a, ha, hb⟩

section
variable {κ : Kx} {Q : Post} {Γ : Cx} {L : List Item} {ops : Array Oper} {rest l : List Oper}
variable {dst : Option Nat} {op : Op} {ty : TypeId} {pos : String} {after : Array Edge} {gd : Option (Nat × Bool)}
/-- Arguments, some of them rows that are lent. -/
inductive ArgLend (Γ : Cx) (Lr : List Item) : List Operand → List Ty → Prop where
  | nil : ArgLend Γ Lr [] []
  | cons {x : Operand} {T B : Ty} {xs : List Operand} {Bs : List Ty} (h : opTy Γ x = some T) (hs : Sub T B) (hr : ArgLend Γ Lr xs Bs) : ArgLend Γ Lr (x :: xs) (B :: Bs)
  | lend {x : Operand} {v : Value} {e : TypeId} {sz : Nat} {ess : List (List Ty)} {xs : List Operand} {Bs : List Ty} (n : Nat) (h : opTy Γ x = some (Ty.own v)) (hi : Lr[n]? = some (Item.row v e sz ess)) (hr : ArgLend Γ Lr xs Bs) : ArgLend Γ Lr (x :: xs) (Ty.slice sz ess :: Bs)
theorem args_lend {Lr L' : List Item} {a : Act} {w : World} {M' : Fb} (hh : Holds κ.gl L' w) (he : EnvOk Γ L' a.tmps w) (hin : ∀ it, it ∈ Lr → it ∈ L') (hle : Le (foot L') w M' w) (hM : ∀ it, it ∈ Lr → ∀ b, it.foot b → ¬ M' b) :
    ∀ {xs : List Operand} {Bs : List Ty}, ArgLend Γ Lr xs Bs → ArgsOk Bs M' w (xs.toArray.map a.eval) := by
  intro xs Bs h
  induction h with
  | nil => exact ⟨by simp, fun j T hT => by simp at hT⟩
  | cons h hs _ ih =>
    refine ⟨by have := ih.1; simp at this ⊢; exact this, fun j U hU => ?_⟩
    cases j with
    | zero => cases hU; exact ⟨_, by simp, hs _ _ _ (Ty.mono _ (opTy_holds he h) hle)⟩
    | succ j =>
      obtain ⟨v, hv, h2⟩ := ih.2 j U (by simpa using hU)
      exact ⟨v, by simpa using hv, h2⟩
  | @lend x v e sz ess xs Bs n h hi _ ih =>
    refine ⟨by have := ih.1; simp at this ⊢; exact this, fun j U hU => ?_⟩
    cases j with
    | zero =>
      cases hU
      have h1 : a.eval x = v := (opTy_holds he h).1
      have hmem := List.mem_of_getElem? hi
      have hrow : RowAt v e sz ess (foot L') w := hh.each _ (hin _ hmem)
      exact ⟨v, by simp [h1], row_slice hrow hle (fun b hb => hM _ hmem b hb)⟩
    | succ j =>
      obtain ⟨v, hv, h2⟩ := ih.2 j U (by simpa using hU)
      exact ⟨v, by simpa using hv, h2⟩

/-- A call that owns nothing, with rows lent to it. -/
theorem does_callZ {fo : Operand} {xs : List Operand} {tys : Array TypeId} {f : FuncId} {Bs : List Ty} {T : Ty} (hC : CallP κ.P κ.gl f Bs T) (hT : T.Exact) (hf : opTy Γ fo = some (Ty.val (.func (.func f) #[] #[]))) (hc : ∀ args w, (callFunc f args).run κ.P w = .ok (.enter f args) w)
    (hx : ArgLend Γ L xs Bs) : Does κ ⟨dst, .call ⟨.value fo, xs.toArray, tys⟩, ty, pos, after, gd⟩ Γ L T := fun L' a w hs hh he K Q hk => by
  have e1 : a.eval fo = .func (.func f) #[] #[] := opTy_holds he hf
  unfold Oper.wp
  rw [run_call e1 hc, Array.append_empty]
  have hle : Le (foot L') w (foot ([] ++ [])) w := Le.of_iff w fun b hb => (foot_nil b (by simpa using hb)).elim
  have hh0 : Holds κ.gl ([] ++ L') w := hh
  refine (hC [] w _ (front_holds hh0) (args_lend hh he hs hle (fun _ _ b _ hb => foot_nil b (by simpa using hb)) hx)).mono ?_
  rintro e w' ⟨v, _, rfl, h1, h2, h3⟩
  obtain ⟨h4, h5⟩ := frame_back hh0 h1 h2 .nil
  exact hk v w' h4 h5 (hT _ _ _ _ _ h3)

/-- A function that keeps the one thing that it is handed: a closure over a variable. -/
theorem does_callC {it : Item} {fo : Operand} {xs : Array Operand} {tys : Array TypeId} {f : FuncId} {caps : Array Value} {As Cs Bs : List Ty} {T : Ty} (n : Nat) (hi : L[n]? = some it) (hC : CallOk κ.P κ.gl f Bs [it] Unit (fun _ => (T, [it]))) (hf : opTy Γ fo = some (Ty.val (.func (.func f) #[] caps))) (hc : ∀ args w, (callFunc f args).run κ.P w = .ok (.enter f args) w)
    (hx : xs.toList.map (opTy Γ) = As.map some) (hcs : caps.toList.map Ty.val = Cs) (hB : Bs = As ++ Cs) : Does κ ⟨dst, .call ⟨.value fo, xs, tys⟩, ty, pos, after, gd⟩ Γ L T := fun L' a w hs hh he K Q hk => by
  have e1 : a.eval fo = .func (.func f) #[] caps := opTy_holds he hf
  obtain ⟨m, hm⟩ := List.mem_iff_getElem?.1 (hs it (List.mem_of_getElem? hi))
  have hp := erase_at hm
  unfold Oper.wp
  rw [run_call e1 hc]
  subst hB
  have he' : EnvOk Γ (it :: L'.eraseIdx m) a.tmps w := he.le (le_perm hp w)
  refine (hC (L'.eraseIdx m) w _ (hh.perm hp) (args_ok he' hx hcs)).mono ?_
  rintro e w' ⟨v, _, rfl, h1, h2, h3⟩
  have hq := hp.symm
  exact hk v w' (Holds.perm h1 hq) (((le_perm hp w).trans h2).trans (le_perm hq w')) (T.mono h3 (le_perm hq w'))

/-- A call that owns Lin, with rows lent to it. -/
theorem doesO_callZ {C : Ty → List Item → Prop} {X : Type} {Out : X → Ty × List Item} {Lin : List Item} {fo : Operand} {xs : List Operand} {tys : Array TypeId} {f : FuncId} {Bs : List Ty} (Lr : List Item) (hC : CallOk κ.P κ.gl f Bs Lin X Out) (hT : ∀ x, (Out x).1.Exact) (hE : ∀ x, ExIts (Out x).2)
    (hf : opTy Γ fo = some (Ty.val (.func (.func f) #[] #[]))) (hc : ∀ args w, (callFunc f args).run κ.P w = .ok (.enter f args) w)
    (hx : ArgLend Γ Lr xs Bs) (hL : L.Perm (Lin ++ Lr)) (h : ∀ x, C (Out x).1 ((Out x).2 ++ Lr)) :
    DoesO κ ⟨dst, .call ⟨.value fo, xs.toArray, tys⟩, ty, pos, after, gd⟩ Γ L C := fun a w s0 K Q hk => by
  have s := s0.perm hL
  have e1 : a.eval fo = .func (.func f) #[] #[] := opTy_holds s.env hf
  unfold Oper.wp
  rw [run_call e1 hc, Array.append_empty]
  have hap := List.pairwise_append.1 s.holds.apart
  have hle : Le (foot (Lin ++ Lr)) w (foot (Lin ++ [])) w := Le.of_iff w fun b hb => (foot_append _ _ b).2 (.inl (by simpa using hb))
  refine (hC [] w _ (front_holds s.holds) (args_lend s.holds s.env (fun it hi => List.mem_append.2 (.inr hi)) hle (fun it hi b hb hq => ?_) hx)).mono ?_
  · rw [List.append_nil] at hq
    obtain ⟨i2, h2, hb2⟩ := hq
    exact hap.2.2 i2 h2 it hi b hb2 hb
  · rintro e w' ⟨v, x, rfl, h1, h2, h3⟩
    obtain ⟨h4, h5⟩ := frame_back s.holds h1 h2 (hE x)
    exact hk _ _ _ _ h4 ((le_perm hL w).trans h5) (hT x _ _ _ _ _ h3) (h x)

/-- append of a row that is lent. -/
theorem doesO_appendZ {C : Ty → List Item → Prop} {t e : TypeId} {z : Value} {sz bytes : Nat} {α : Type} {f : α → List Ty} {l m : List α} {s x : Operand} {v u : Value} (hE : ElTy κ.P t e z sz bytes) (Lr : List Item) (n : Nat) (r : List α) (hr : app bytes l m = some r) (hf : ∀ y, ExL (f y))
    (hs : opTy Γ s = some (Ty.own v)) (hL : L.Perm (rowL v e sz f l :: Lr)) (hx : opTy Γ x = some (Ty.own u)) (hi : Lr[n]? = some (rowL u e sz f m))
    (h : ∀ v', C (Ty.own v') (rowL v' e sz f r :: Lr)) : DoesO κ ⟨dst, .call ⟨.builtin .append, #[s, x], #[t, t]⟩, ty, pos, after, gd⟩ Γ L C :=
  doesO_run fun a w s0 => by
    have st := s0.perm hL
    have h1 : a.eval s = v := (opTy_holds st.env hs).1
    have h2 : a.eval x = u := (opTy_holds st.env hx).1
    unfold app at hr
    split at hr
    · rename_i hb
      cases hr
      have hmem := List.mem_of_getElem? hi
      have hrow : RowAt u e sz (m.map f) (foot (rowL v e sz f l :: Lr)) w := st.holds.each _ (List.mem_cons_of_mem _ hmem)
      have hle : Le (foot (rowL v e sz f l :: Lr)) w (foot ([rowL v e sz f l] ++ [])) w := Le.of_iff w fun b hb => by
        obtain ⟨it, h3, h4⟩ := hb
        simp only [List.append_nil, List.mem_singleton] at h3
        exact ⟨it, by simp [h3], h4⟩
      have hsl : (Ty.slice sz (m.map f)).holds (foot ([rowL v e sz f l] ++ [])) w u := row_slice hrow hle (fun b hb ⟨it, h3, h4⟩ => by
        simp only [List.append_nil, List.mem_singleton] at h3
        subst h3
        exact (List.pairwise_cons.1 st.holds.apart).1 _ hmem b h4 hb)
      have hh0 : Holds κ.gl ([rowL v e sz f l] ++ Lr) w := st.holds
      obtain ⟨v', w', hrun, hh, hl, ho⟩ := run_append_row (ty := ty) hE (front_holds hh0) 0 rfl hsl (by simpa using hb.1) (by simpa using hb.2)
      obtain ⟨h4, h5⟩ := frame_back (Lo := [rowL v' e sz f (l ++ m)]) hh0 (by simpa [rowL] using hh) (by simpa [rowL] using hl) (.cons (ex_row hf) .nil)
      exact ⟨v', w', Ty.own v', rowL v' e sz f (l ++ m) :: Lr, by simp [execOp, resolve, invoke, builtin, h1, h2, hrun], h4, (le_perm hL w).trans h5, ⟨rfl, ho⟩, h v'⟩
    · cases hr

/-- []T{}: an empty row of the call's own. -/
theorem doesO_build0 {C : Ty → List Item → Prop} {t e : TypeId} {z : Value} {sz bytes : Nat} {α : Type} {f : α → List Ty} (hE : ElTy κ.P t e z sz bytes) (h : ∀ v, C (Ty.own v) (rowL v e sz f [] :: L)) : DoesO κ ⟨dst, .buildSlice t 0 #[], ty, pos, after, gd⟩ Γ L C :=
  doesO_run fun a w s => by
    have hr0 : ∀ g : Nat → Value, (Array.range 0).map g = #[] := fun g => by simp
    have hrun : (Instr.buildSlice t 0 #[]).run κ.P w = .ok (.slice (some ⟨w.heap.size, 0, none⟩) 0 0) (w.alloc (.cells #[] e)) := by
      simp [Instr.buildSlice, run_underlying hE.sl, hE.run, newRow, hr0, Instr.fill]
    have hnew := s.holds.new (i' := rowL (.slice (some ⟨w.heap.size, 0, none⟩) 0 0) e sz f []) (w' := w.alloc (.cells #[] e)) (by simp) rfl rfl rfl (fun b hb => Below.heap_alloc w _ b hb)
      (fun b hb => by have hb' : (Value.slice (some ⟨w.heap.size, 0, none⟩) 0 0).ownBlock = some b := hb; simp only [Value.ownBlock, Option.some.injEq] at hb'; omega)
      (fun M hl _ _ => .inr ⟨w.heap.size, 0, #[], by simp, heap_alloc_new w _, by simp, by simp [maxLen], by simp, fun i es hes => by simp at hes⟩)
    exact ⟨_, _, Ty.own (.slice (some ⟨w.heap.size, 0, none⟩) 0 0), _, by simp [execOp, hrun], hnew.1, hnew.2, ⟨rfl, rfl⟩, h _⟩

/-- The first result lies in a block, the second in a slot. -/
theorem okX_retCT {P : Program} {gl : Gl} {n : Nat} {L0 Lt : List Item} {w0 : World} {fn : Func} {X : Type} {Out : X → Ty × List Item} {t t2 g sz : Nat} {e ty : TypeId} {us : List Ty} {U : Ty} (x : X) (hr : fn.results = #[.cell t ty, .tmp t2]) (ht : Γ.look t = some (pAt g 0)) (ht2 : Γ.look t2 = some U) (i : Nat) (hi : L[i]? = some (Item.blk g e us)) (hag : ∀ w, (isAgg ty).run P w = .ok true w) (hsz : ∀ w, (sizeOf ty).run P w = .ok sz w) (hlen : us.length = sz)
    (hO : (Out x).1 = Ty.tup [Ty.agg us, U]) (D : List Item) (hL : L.Perm (D ++ ((Out x).2 ++ Lt))) : OkX ⟨P, gl, n, L0, w0⟩ (bodyPost P fn (RetP gl L0 w0 Lt Out)) .ret Γ L := fun a w s => by
  have h1 : a.tmps.getD t undef = .pointer (some ⟨g, 0, none⟩) := s.env t _ ht
  obtain ⟨cs, hg, ha⟩ : BlkAt g e us (foot L) w := s.holds.each _ (List.mem_of_getElem? hi)
  obtain ⟨vs, h2, h3, h4⟩ := cells_of (us := us) (M := foot L) (o := 0) hg (fun j T hj => by rw [Nat.zero_add]; exact ha.2 j T hj)
  have hrun := run_loadCells_list (P := P) w ⟨g, 0, none⟩ vs h3
  rw [h2, hlen] at hrun
  have hres : (results fn a.tmps).run P w = .ok (.tuple #[.agg vs.toArray, a.tmps.getD t2 undef]) w := by
    have h1' : a.tmps[t]?.getD undef = .pointer (some ⟨g, 0, none⟩) := by rw [← Array.getD_eq_getD_getElem?]; exact h1
    simp [results, hr, h1', asAddr, loadVar, hag, hsz, hrun]
  have s2 := s.keep D hL
  refine ⟨s.defers, _, hres, _, x, rfl, s2.holds, s2.le, ?_⟩
  rw [hO]
  have hle : Le (foot L) w (foot ((Out x).2 ++ Lt)) w := by
    refine Le.of_iff w fun b hb => ?_
    exact (foot_perm hL b).2 ((foot_append _ _ b).2 (.inr hb))
  refine ⟨_, rfl, rfl, fun j V hV => ?_⟩
  match j with
  | 0 => cases hV; exact ⟨_, rfl, vs.toArray, rfl, h4.mono hle⟩
  | 1 => cases hV; exact ⟨_, rfl, s2.env t2 _ ht2⟩
  | j + 2 => simp at hV
end
end Go.Proofs.YtocfnpnnbmicmaaDoor.Tc
