/- The typing calculus: more small words for the printed derivations. -/
import Derived.Test.YtocfnpnnbmicmaaDoorBase10
set_option linter.unusedVariables false
set_option linter.unusedSimpArgs false
namespace Go.Proofs.YtocfnpnnbmicmaaDoor.Tc
open Go Go.RowKit

abbrev w64 (n : Int) : Int := IntKind.i64.wrap n
abbrev u64 (n : Int) : Int := IntKind.u64.wrap n
def lS (s : ByteArray) : List Ty := [tS s]
def out {S T : Type} (o : Option T) : Option (S ⊕ T) := o.map .inr
def inn {S T : Type} (s : S) : Option (S ⊕ T) := some (.inl s)
theorem outh {S T : Type} {o : Option T} {z : S ⊕ T} {k : S → Option T} {r : T} (h : out o = some z) (hz : sqv z k = some r) : o = some r := by
  cases o with
  | none => cases h
  | some t => cases h; exact hz
theorem innh {S T : Type} {s : S} {z : S ⊕ T} (h : (inn s : Option (S ⊕ T)) = some z) : z = .inl s := (Option.some.inj h).symm
theorem smh {S : Type} {s z : S} (h : some s = some z) : z = s := (Option.some.inj h).symm
theorem nz {α : Type} {z : α} (h : (none : Option α) = some z) : False := by cases h

theorem cn {Γ : Cx} : Cov Γ [] := trivial
theorem cc {Γ r : Cx} {k : Nat} {t : Ty} (h : Γ.look k = some t) (hr : Cov Γ r) : Cov Γ ((k, t) :: r) := ⟨h, hr⟩
theorem dn {κ : Kx} {l : List Oper} {hs : Hs} {Γ : Cx} {Z : Two} {k : Nat} : DrawOps κ l hs Γ Z k [] [] := trivial
theorem dc {κ : Kx} {l : List Oper} {hs : Hs} {Γ : Cx} {Z : Two} {k : Nat} {o : Oper} {os : List Oper} {p : Nat × Ty} {r : Hs} (h : DrawOp κ l hs Γ Z.late o p.2) (hr : DrawOps κ l hs Γ Z (k + 1) os r) : DrawOps κ l hs Γ Z k (o :: os) (some p :: r) := ⟨.inl h, hr⟩
theorem de {κ : Kx} {l : List Oper} {hs : Hs} {Γ : Cx} {Z : Two} {k : Nat} {o : Oper} {os : List Oper} {p : Nat × Ty} {r : Hs} (he : isEarly l Z k = true) (h : DrawOp κ l hs Γ Z.early o p.2) (hr : DrawOps κ l hs Γ Z (k + 1) os r) : DrawOps κ l hs Γ Z k (o :: os) (some p :: r) := ⟨.inr ⟨he, h⟩, hr⟩
theorem ds {κ : Kx} {l : List Oper} {hs : Hs} {Γ : Cx} {Z : Two} {k : Nat} {o : Oper} {os : List Oper} {r : Hs} (hr : DrawOps κ l hs Γ Z (k + 1) os r) : DrawOps κ l hs Γ Z k (o :: os) (none :: r) := hr
theorem fn_ {Γ : Cx} {place : Nat → Option (Nat × Nat)} {ts us : List Ty} (h : us = ts) : Fill Γ place [] ts us := h
theorem fc {Γ : Cx} {place : Nat → Option (Nat × Nat)} {i : Nat} {x : Operand} {r : List (Nat × Operand)} {ts us : List Ty} {T : Ty} (ps : List Ty) (off : Nat) (h1 : opTy Γ x = some T) (h2 : PartTy T ps) (h3 : place i = some (off, ps.length)) (h4 : Nat.ble (off + ps.length) ts.length = true) (h5 : Fill Γ place r (over ts off ps) us) :
    Fill Γ place ((i, x) :: r) ts us := ⟨T, ps, off, h1, h2, h3, h4, h5⟩
theorem an {Γ : Cx} {v : Value} : AllOwn Γ v [] := trivial
theorem ac {Γ : Cx} {v : Value} {t : Nat} {ts : List Nat} (h : Γ.look t = some (Ty.own v)) (hr : AllOwn Γ v ts) : AllOwn Γ v (t :: ts) := ⟨h, hr⟩

/-- Cells taken for less than they say, one by one. -/
inductive SubL : List Ty → List Ty → Prop where
  | nil : SubL [] []
  | cons {t u : Ty} {ts us : List Ty} (h : Sub t u) (hr : SubL ts us) : SubL (t :: ts) (u :: us)
theorem sub_refl (t : Ty) : Sub t t := fun _ _ _ h => h
theorem SubL.len {ts us : List Ty} (h : SubL ts us) : ts.length = us.length := by induction h with | nil => rfl | cons _ _ ih => simp [ih]
theorem SubL.at {ts us : List Ty} (h : SubL ts us) : ∀ (j : Nat) (u : Ty), us[j]? = some u → ∃ t, ts[j]? = some t ∧ Sub t u := by
  induction h with
  | nil => intro j u hu; simp at hu
  | cons h1 _ ih =>
    intro j u hu
    cases j with
    | zero => cases hu; exact ⟨_, rfl, h1⟩
    | succ j => exact ih j u (by simpa using hu)
theorem arr_sub {ts us : List Ty} {M : Fb} {w : World} {cs : Array Value} (h : SubL ts us) (ha : ArrAt ts M w cs) : ArrAt us M w cs :=
  ⟨by rw [ha.1, h.len], fun j u hu => by
    obtain ⟨t, ht, hs⟩ := h.at j u hu
    obtain ⟨x, hx, h1, h2⟩ := ha.2 j t ht
    exact ⟨x, hx, h1, hs _ _ _ h2⟩⟩
theorem part_sub {T : Ty} {ps qs : List Ty} (h : PartTy T ps) (hs : SubL ps qs) : PartTy T qs := fun M w v hv => arr_sub hs (h M w v hv)
theorem part_of {T T' : Ty} {ps : List Ty} (hs : Sub T T') (h : PartTy T' ps) : PartTy T ps := fun M w v hv => h M w v (hs M w v hv)
theorem sub_aggs {ts us : List Ty} (h : SubL ts us) : Sub (Ty.agg ts) (Ty.agg us) := fun M w v ⟨cs, e, ha⟩ => ⟨cs, e, arr_sub h ha⟩
theorem sub_trans {a b c : Ty} (h : Sub a b) (k : Sub b c) : Sub a c := fun M w v x => k M w v (h M w v x)

section
variable {κ : Kx} {Q : Post} {Γ : Cx} {L : List Item} {ops : Array Oper} {rest l : List Oper}
variable {dst : Option Nat} {op : Op} {ty : TypeId} {pos : String} {after : Array Edge} {gd : Option (Nat × Bool)}
theorem does_weak {o : Oper} {T T' : Ty} (h : Does κ o Γ L T) (hs : Sub T T') : Does κ o Γ L T' := fun L' a w h1 h2 h3 K Q hk => h L' a w h1 h2 h3 K Q fun v w' x y z => hk v w' x y (hs _ _ _ z)
theorem okC_meetE {X : Type} {x : Code} (I : X → Prop) (G : X → Cx) (Lf : X → List Item) (h : OkC κ x (Exit.then (Meet κ I G Lf) Q) Γ L) (hy : ∀ x, I x → OkX κ Q .normal (G x) (Lf x)) :
    OkC κ x Q Γ L := fun a w s => by
  refine wp_mono (h a w s) ?_
  intro e a' w' hq
  cases e with
  | normal => obtain ⟨x, hx, hs⟩ := hq; exact hy x hx a' w' hs
  | _ => exact hq
/-- A block's cells told otherwise. -/
theorem Sat.blksub {a : Act} {w : World} {g : Nat} {e : TypeId} {us us' : List Ty} (n : Nat) (hn : L[n]? = some (Item.blk g e us)) (hs : SubL us us') (s : Sat κ Γ L a w) : Sat κ Γ (L.set n (Item.blk g e us')) a w := by
  obtain ⟨cs, hg, ha⟩ : BlkAt g e us (foot L) w := s.holds.each _ (List.mem_of_getElem? hn)
  have h := s.holds.swapAt (i' := Item.blk g e us') hn (Nat.le_refl _) rfl rfl rfl (fun _ _ _ => rfl) (fun b hb => .inl hb) (fun M hl => ⟨cs, hg, arr_sub hs (ha.mono hl)⟩)
  exact ⟨s.defers, s.size, h.1, s.le.trans h.2, s.env.le h.2⟩
theorem okX_blksub {x : Exit} {g : Nat} {e : TypeId} {us : List Ty} (n : Nat) (us' : List Ty) (L' : List Item) (hn : L[n]? = some (Item.blk g e us)) (hs : SubL us us') (hL : L' = L.set n (Item.blk g e us')) (h : OkX κ Q x Γ L') : OkX κ Q x Γ L := fun a w s => by
  subst hL; exact h a w (s.blksub n hn hs)
theorem okC_blksub {c : Code} {g : Nat} {e : TypeId} {us : List Ty} (n : Nat) (us' : List Ty) (L' : List Item) (hn : L[n]? = some (Item.blk g e us)) (hs : SubL us us') (hL : L' = L.set n (Item.blk g e us')) (h : OkC κ c Q Γ L') : OkC κ c Q Γ L := fun a w s => by
  subst hL; exact h a w (s.blksub n hn hs)
theorem okC_publishB {c : Code} {v : Value} {e e2 : TypeId} {sz g : Nat} {ess : List (List Ty)} {us : List Ty} {R : List Item} (j : Nat) (ts : List Nat) (us' : List Ty) (hL : L.Perm (Item.row v e sz ess :: Item.blk g e2 us :: R)) (hj : us[j]? = some (Ty.own v)) (ht : AllOwn Γ v ts) (hu : us' = us.set j (Ty.slice sz ess))
    (h : OkC κ c Q (retype (Ty.slice sz ess) ts Γ) (Item.blk g e2 us' :: R)) : OkC κ c Q Γ L := fun a w s => by
  subst hu; exact h a w ((s.perm hL).publishB ts hj ht)
theorem okX_publishB {c : Exit} {v : Value} {e e2 : TypeId} {sz g : Nat} {ess : List (List Ty)} {us : List Ty} {R : List Item} (j : Nat) (ts : List Nat) (us' : List Ty) (hL : L.Perm (Item.row v e sz ess :: Item.blk g e2 us :: R)) (hj : us[j]? = some (Ty.own v)) (ht : AllOwn Γ v ts) (hu : us' = us.set j (Ty.slice sz ess))
    (h : OkX κ Q c (retype (Ty.slice sz ess) ts Γ) (Item.blk g e2 us' :: R)) : OkX κ Q c Γ L := fun a w s => by
  subst hu; exact h a w ((s.perm hL).publishB ts hj ht)
/-- A nil slice in a block's cell becomes a row of the call's own. -/
theorem Sat.nilrowB {a : Act} {w : World} {sz g j : Nat} {e2 : TypeId} {us : List Ty} {α : Type} (f : α → List Ty) (e : TypeId) (n : Nat) (hn : L[n]? = some (Item.blk g e2 us)) (hj : us[j]? = some (Ty.val (.slice none 0 0))) (s : Sat κ Γ L a w) :
    Sat κ Γ (rowL (.slice none 0 0) e sz f [] :: L.set n (Item.blk g e2 (us.set j (Ty.own (.slice none 0 0))))) a w := by
  obtain ⟨cs, hg, ha⟩ : BlkAt g e2 us (foot L) w := s.holds.each _ (List.mem_of_getElem? hn)
  have h := s.holds.swapAt (i' := Item.blk g e2 (us.set j (Ty.own (.slice none 0 0)))) hn (Nat.le_refl _) rfl rfl rfl (fun _ _ _ => rfl) (fun b hb => .inl hb) (fun M hl => ⟨cs, hg, by simp [ha.1], fun i T hT => by
    rw [List.getElem?_set] at hT
    split at hT
    · rename_i hji
      subst hji
      obtain ⟨u, hu, hu1, hu2⟩ := ha.2 j _ hj
      split at hT
      · cases hT; exact ⟨u, hu, hu1, hu2, hu1⟩
      · cases hT
    · obtain ⟨u, hu, hu1, hu2⟩ := ha.2 i T hT
      exact ⟨u, hu, hu1, T.mono hu2 hl⟩⟩)
  have hnn := h.1.new (i' := rowL (.slice none 0 0) e sz f []) (Nat.le_refl _) rfl rfl rfl (fun _ _ => rfl) (fun b hb => by have hb' : (Value.slice none 0 0).ownBlock = some b := hb; simp [Value.ownBlock] at hb') (fun M hl _ _ => .inl ⟨rfl, rfl⟩)
  exact ⟨s.defers, s.size, hnn.1, (s.le.trans h.2).trans hnn.2, (s.env.le h.2).le hnn.2⟩
theorem okC_nilrowB {c : Code} {sz g : Nat} {e2 : TypeId} {us : List Ty} {α : Type} (f : α → List Ty) (e : TypeId) (n j : Nat) (us' : List Ty) (L' : List Item) (hn : L[n]? = some (Item.blk g e2 us)) (hj : us[j]? = some (Ty.val (.slice none 0 0))) (hu : us' = us.set j (Ty.own (.slice none 0 0))) (hL : L' = rowL (.slice none 0 0) e sz f [] :: L.set n (Item.blk g e2 us'))
    (h : OkC κ c Q Γ L') : OkC κ c Q Γ L := fun a w s => by
  subst hu hL; exact h a w (s.nilrowB f e n hn hj)
theorem okX_nilrowB {c : Exit} {sz g : Nat} {e2 : TypeId} {us : List Ty} {α : Type} (f : α → List Ty) (e : TypeId) (n j : Nat) (us' : List Ty) (L' : List Item) (hn : L[n]? = some (Item.blk g e2 us)) (hj : us[j]? = some (Ty.val (.slice none 0 0))) (hu : us' = us.set j (Ty.own (.slice none 0 0))) (hL : L' = rowL (.slice none 0 0) e sz f [] :: L.set n (Item.blk g e2 us'))
    (h : OkX κ Q c Γ L') : OkX κ Q c Γ L := fun a w s => by
  subst hu hL; exact h a w (s.nilrowB f e n hn hj)
/-- The result lies in a block. -/
theorem okX_retC {P : Program} {gl : Gl} {n : Nat} {L0 Lt : List Item} {w0 : World} {fn : Func} {X : Type} {Out : X → Ty × List Item} {t g sz : Nat} {e ty : TypeId} {us : List Ty} (x : X) (hr : fn.results = #[.cell t ty]) (ht : Γ.look t = some (pAt g 0)) (i : Nat) (hi : L[i]? = some (Item.blk g e us)) (hag : ∀ w, (isAgg ty).run P w = .ok true w) (hsz : ∀ w, (sizeOf ty).run P w = .ok sz w) (hlen : us.length = sz)
    (hO : (Out x).1 = Ty.agg us) (D : List Item) (hL : L.Perm (D ++ ((Out x).2 ++ Lt))) : OkX ⟨P, gl, n, L0, w0⟩ (bodyPost P fn (RetP gl L0 w0 Lt Out)) .ret Γ L := fun a w s => by
  have h1 : a.tmps.getD t undef = .pointer (some ⟨g, 0, none⟩) := s.env t _ ht
  obtain ⟨cs, hg, ha⟩ : BlkAt g e us (foot L) w := s.holds.each _ (List.mem_of_getElem? hi)
  obtain ⟨vs, h2, h3, h4⟩ := cells_of (us := us) (M := foot L) (o := 0) hg (fun j T hj => by rw [Nat.zero_add]; exact ha.2 j T hj)
  have hrun := run_loadCells_list (P := P) w ⟨g, 0, none⟩ vs h3
  rw [h2, hlen] at hrun
  have hres : (results fn a.tmps).run P w = .ok (.agg vs.toArray) w := by
    have h1' : a.tmps[t]?.getD undef = .pointer (some ⟨g, 0, none⟩) := by rw [← Array.getD_eq_getD_getElem?]; exact h1
    simp [results, hr, h1', asAddr, loadVar, hag, hsz, hrun]
  have s2 := s.keep D hL
  refine ⟨s.defers, _, hres, _, x, rfl, s2.holds, s2.le, ?_⟩
  rw [hO]
  have hle : Le (foot L) w (foot ((Out x).2 ++ Lt)) w := by
    refine Le.of_iff w fun b hb => ?_
    exact (foot_perm hL b).2 ((foot_append _ _ b).2 (.inr hb))
  exact ⟨vs.toArray, rfl, h4.mono hle⟩
/-- Arguments taken for less than they say. -/
inductive ArgSub (Γ : Cx) : List Operand → List Ty → Prop where
  | nil : ArgSub Γ [] []
  | cons {x : Operand} {T B : Ty} {xs : List Operand} {Bs : List Ty} (h : opTy Γ x = some T) (hs : Sub T B) (hr : ArgSub Γ xs Bs) : ArgSub Γ (x :: xs) (B :: Bs)
theorem args_sub {L' : List Item} {a : Act} {w : World} (he : EnvOk Γ L' a.tmps w) : ∀ {xs : List Operand} {Bs : List Ty}, ArgSub Γ xs Bs → ArgsOk Bs (foot L') w (xs.toArray.map a.eval) := by
  intro xs Bs h
  induction h with
  | nil => exact ⟨by simp, fun j T hT => by simp at hT⟩
  | cons h hs _ ih =>
    refine ⟨by have := ih.1; simp at this ⊢; exact this, fun j U hU => ?_⟩
    cases j with
    | zero => cases hU; exact ⟨_, by simp, hs _ _ _ (opTy_holds he h)⟩
    | succ j =>
      obtain ⟨v, hv, h2⟩ := ih.2 j U (by simpa using hU)
      exact ⟨v, by simpa using hv, h2⟩
theorem does_callS {fo : Operand} {xs : List Operand} {tys : Array TypeId} {f : FuncId} {Bs : List Ty} {T : Ty} (hC : CallP κ.P κ.gl f Bs T) (hf : opTy Γ fo = some (Ty.val (.func (.func f) #[] #[]))) (hc : ∀ args w, (callFunc f args).run κ.P w = .ok (.enter f args) w)
    (hx : ArgSub Γ xs Bs) : Does κ ⟨dst, .call ⟨.value fo, xs.toArray, tys⟩, ty, pos, after, gd⟩ Γ L T := fun L' a w hs hh he K Q hk => by
  have e1 : a.eval fo = .func (.func f) #[] #[] := opTy_holds he hf
  unfold Oper.wp
  rw [run_call e1 hc, Array.append_empty]
  refine (hC L' w _ hh (args_sub he hx)).mono ?_
  rintro e w' ⟨v, _, rfl, h1, h2, h3⟩
  exact hk v w' h1 h2 h3
end
end Go.Proofs.YtocfnpnnbmicmaaDoor.Tc
