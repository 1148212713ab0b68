/- The plain laws: what the pure functions come to. -/
import Derived.Test.YtocfnpnnbmicmaaDoorZRa7
section
set_option linter.unusedVariables false
set_option linter.unusedSimpArgs false
namespace Go.Proofs.YtocfnpnnbmicmaaDoor.Tc
open Go
theorem ev_foldi {α A S R : Type} (l : List α) (F : Nat → Nat → Int → S → Option R) (fin : S → R) (g : A → α → A) (Rp : Nat → A → S → Prop)
  (hend : ∀ a s, Rp l.length a s → Ev (fun K k => F K k (l.length : Int) s) (fin s))
  (hstep : ∀ (i : Nat) (x : α) (a : A) (s : S), l[i]? = some x → i < l.length → Rp i a s → ∃ s', Rp (i + 1) (g a x) s' ∧ ∀ r, Ev (fun K k => F K k ((i + 1 : Nat) : Int) s') r → Ev (fun K k => F K k (i : Int) s) r) :
  ∀ a s, Rp 0 a s → ∃ s', Rp l.length (l.foldl g a) s' ∧ Ev (fun K k => F K k 0 s) (fin s') := by
 have key : ∀ n i, i + n = l.length → ∀ a s, Rp i a s → ∃ s', Rp l.length ((l.drop i).foldl g a) s' ∧ Ev (fun K k => F K k (i : Int) s) (fin s') := by
  intro n
  induction n with
  | zero =>
   intro i hi a s h
   have : i = l.length := by omega
   subst this
   exact ⟨s, by rw [List.drop_length]; exact h, hend a s h⟩
  | succ n ih =>
   intro i hi a s h
   have hlt : i < l.length := by omega
   obtain ⟨s1, h1, h2⟩ := hstep i l[i] a s (List.getElem?_eq_getElem hlt) hlt h
   obtain ⟨s2, h3, h4⟩ := ih (i + 1) (by omega) _ s1 h1
   exact ⟨s2, by rw [drop_get hlt, List.foldl_cons]; exact h3, h2 _ h4⟩
 intro a s h
 have := key l.length 0 (by omega) a s h
 simpa using this
theorem rng_get {n i x : Nat} (h : (List.range n)[i]? = some x) : x = i ∧ i < n := by
 rcases Nat.lt_or_ge i n with q | q
 ·rw [List.getElem?_range q] at h; exact ⟨(Option.some.inj h).symm, q⟩
 ·rw [List.getElem?_eq_none (by simpa using q)] at h; cases h
def rt (c : VFunc) (st : AState) : Int × Int × (List Block) × (List Int) × (List Bool) × (List Spill) := (c.Params, c.Regs, c.Blocks, UC c, st.sp, st.ss)
theorem rspill_eq {c : VFunc} {w : List Int} {st : AState} {x : Spill} (h0 : 0 ≤ x.Reg) (h1 : x.Reg < st.sp.length) (hl : st.ss.length ≤ 5000) : ref32_allocator_spill (⟨c, st.sp, st.ss, w⟩ : Fullingref32Allocator) x = some ⟨c, (spl st x).sp, (spl st x).ss, w⟩ := by
 unfold ref32_allocator_spill
 rw [isSp_idx h0 h1, Option.bind_some, app_eq (by simp; omega) (by simp; omega)]; rfl
theorem ev_notSp {c : VFunc} (h : Vd c) {a : Fullingref32Allocator} (hl : a.Spilled.length = c.Regs.toNat) {l : List Int} (hr : RS c l) : Ev (fun K _ => ref32_allocator_notSpilled K a l) (unsp a.Spilled l) := by
 have hlen := hr.len h
 have loop : ∀ (m p s : List Int), l = p ++ m → s.length + m.length ≤ 3000 → Ev (fun K k => ref32_allocator_notSpilled_l1 K a l k ((p.length : Int), s)) (s ++ unsp a.Spilled m) := by
  intro m
  induction m with
  | nil =>
   intro p s e _
   refine Ev.step (fun K k => rfl) (Ev.f ?_ ((Ev.some _).cast (by simp [unsp])))
   subst e; simp
  | cons y m ih =>
   intro p s e hs
   have hg : idx l (p.length : Int) = some y := idx_eq (by subst e; simp)
   have hlt : (p.length : Int) < (l.length : Int) := by subst e; simp; omega
   have hw : w64 ((p.length : Int) + 1) = ((p ++ [y]).length : Int) := by
    rw [w64_id (by omega) (by omega)]; simp
   have hy := hr.r y (by subst e; simp)
   simp only [List.length_cons] at hs
   have hsp := isSp_idx (sp := a.Spilled) hy.1 (by omega)
   cases hb : isSp a.Spilled y with
   | true =>
    rw [hb] at hsp
    refine Ev.step (fun K k => rfl) (Ev.t (by simpa using hlt) (Ev.bind (x := s) (Ev.bindO hg (Ev.bindO hsp (Ev.f rfl (Ev.some _)))) ?_))
    simp only [hw]
    refine (ih (p ++ [y]) s (by subst e; simp) (by omega)).cast ?_
    unfold unsp; rw [List.filter_cons, hb]; rfl
   | false =>
    rw [hb] at hsp
    refine Ev.step (fun K k => rfl) (Ev.t (by simpa using hlt) (Ev.bind (x := s ++ [y]) (Ev.bindO hg (Ev.bindO hsp (Ev.t rfl (Ev.bindO hg (Ev.bindO (app_eq (by simp; omega) (by simp; omega)) (Ev.some _)))))) ?_))
    simp only [hw]
    refine (ih (p ++ [y]) (s ++ [y]) (by subst e; simp) (by simp; omega)).cast ?_
    unfold unsp; rw [List.filter_cons, hb]; simp
 unfold ref32_allocator_notSpilled
 exact Ev.bind (Ev.loop (loop l [] [] rfl (by simpa using hlen))) ((Ev.some _).cast (by simp))
theorem fc_at {c : VFunc} (h : Vd c) {r : Int} {b j : Nat} (hb : b < c.Blocks.length) (hj : j < (bk c b).Instrs.length) {R : Unit ⊕ (Unit ⊕ (Int × Int))} (h1 : r ∈ acv (iAt (bk c b) j) (lp (bk c b) (LO c b) (j + 1)) → R = .inr (.inr ((b : Int), (j : Int)))) (h2 : r ∉ acv (iAt (bk c b) j) (lp (bk c b) (LO c b) (j + 1)) → Ev (fun K k => ref32_firstCall_l2 K c r (b : Int) (LPs c b) k ((j + 1 : Nat) : Int)) R) : Ev (fun K k => ref32_firstCall_l2 K c r (b : Int) (LPs c b) k (j : Int)) R := by
 have hlen := h.len hb
 have hv := h.ia hb hj
 have hl := RS.lp (h.iv hb) (h.e hb) (RS.LO h b) (j + 1)
 refine Ev.step (fun K k => rfl) (Ev.bindO (bk_idx hb) (Ev.t (by simpa using hj) (Ev.bindO (bk_idx hb) (Ev.bindO (idx_eq (iAt_get hj)) (Ev.bindO (after_eq hb hj hlen) (Ev.bind (ev_acrossCall h hv hl) (Ev.bind (ev_contains' h (RS.acv hv hl)) ?_)))))))
 refine Ev.cnd (fun hc => ?_) (fun hc => ?_)
 ·rw [h1 (by simpa using hc)]
  exact Ev.out (Ev.out (Ev.some _))
 ·rw [w64_succ (i := j) (by omega)]
  exact h2 (by simpa using hc)
theorem fc_none {c : VFunc} (h : Vd c) {r : Int} {b : Nat} (hb : b < c.Blocks.length) (hn : ∀ i, i < (bk c b).Instrs.length → r ∉ acv (iAt (bk c b) i) (lp (bk c b) (LO c b) (i + 1))) : Ev (fun K k => ref32_firstCall_l2 K c r (b : Int) (LPs c b) k 0) (.inl ()) :=
 upto (P := fun j => Ev (fun K k => ref32_firstCall_l2 K c r (b : Int) (LPs c b) k (j : Int)) (.inl ())) (n := (bk c b).Instrs.length) (Ev.step (fun K k => rfl) (Ev.bindO (bk_idx hb) (Ev.f (by simp) (Ev.inn ())))) fun j hj ih => fc_at h hb hj (fun q => absurd q (hn j hj)) fun _ => ih
theorem fc_hit {c : VFunc} (h : Vd c) {r : Int} {b i : Nat} (hf : Fst c r b i) : Ev (fun K k => ref32_firstCall_l2 K c r (b : Int) (LPs c b) k 0) (.inr (.inr ((b : Int), (i : Int)))) :=
 upto (P := fun j => Ev (fun K k => ref32_firstCall_l2 K c r (b : Int) (LPs c b) k (j : Int)) (.inr (.inr ((b : Int), (i : Int))))) (n := i) (fc_at h hf.hk hf.hi (fun _ => rfl) fun q => absurd hf.m q) fun j hj ih => fc_at h hf.hk (by have := hf.hi; omega) (fun q => absurd q (hf.e b j hf.hk (by have := hf.hi; omega) (.inr ⟨rfl, hj⟩))) fun _ => ih
theorem ev_firstCall {c : VFunc} (h : Vd c) {r : Int} {k i : Nat} (hf : Fst c r k i) : Ev (fun K _ => ref32_firstCall K c r) ((k : Int), (i : Int)) := by
 have hb1 := h.h.b1
 have l1 : Ev (fun K n => ref32_firstCall_l1 K c r n ((0 : Nat) : Int)) (.inr ((k : Int), (i : Int))) := by
  have hk := hf.hk
  refine upto (P := fun b => Ev (fun K n => ref32_firstCall_l1 K c r n (b : Int)) (.inr ((k : Int), (i : Int)))) (n := k) ?_ fun b hb ih => ?_
  ·exact Ev.step (fun K n => rfl) (Ev.t (by simpa using hk) (Ev.bind (ev_rpoints h hk) (Ev.sqr (Ev.loop (fc_hit h hf)))))
  ·refine Ev.step (fun K n => rfl) (Ev.t (by simp; omega) (Ev.bind (ev_rpoints h (by omega)) (Ev.sql (Ev.loop (fc_none h (by omega) fun i' hi' => hf.e b i' (by omega) hi' (.inl hb))) ?_)))
   rw [w64_succ (i := b) (by omega)]; exact ih
 unfold ref32_firstCall
 exact Ev.sqr (Ev.loop l1)
theorem ev_spillCalls {c : VFunc} (h : Vd c) : Ev (fun K _ => ref32_allocator_spillCalls K (⟨c, List.replicate c.Regs.toNat false, [], UC c⟩ : Fullingref32Allocator)) ⟨c, (ph1 c).sp, (ph1 c).ss, UC c⟩ := by
 obtain ⟨e1, hrs⟩ := ev_racross h
 have hlen := hrs.len h
 obtain ⟨s', ⟨rfl, _, _⟩, el⟩ := ev_foldi (AC c) (fun K k i s => ref32_allocator_spillCalls_l1 K (AC c) k (i, s)) id (sp1 c) (fun n st s => s = rt c st ∧ st.sp.length = c.Regs.toNat ∧ st.ss.length ≤ n)
  (fun a s hs => Ev.step (fun K k => rfl) (Ev.f (by simp) (Ev.some _)))
  (fun i x st s hx hi hs => by
   obtain ⟨rfl, hl, hn⟩ := hs
   have hm := List.mem_of_getElem? hx
   have hxr := hrs.r x hm
   obtain ⟨k, j, hf⟩ := fst_ex hm
   have e2 := rspill_eq (c := c) (w := UC c) (st := st) (x := ⟨x, 1, (k : Int), (j : Int), []⟩) hxr.1 (by show x < _; omega) (by omega)
   refine ⟨rt c (sp1 c st x), ⟨rfl, by simp [sp1, spl, hl], by simp [sp1, spl]; omega⟩, fun r hr => Ev.step (fun K k => rfl) (Ev.t (by simpa using hi) (Ev.bindO (idx_eq hx) (Ev.bind (ev_firstCall h hf) (Ev.bindO (idx_eq hx) (Ev.bindO e2 ?_)))))⟩
   have e3 : sp1 c st x = spl st ⟨x, 1, (k : Int), (j : Int), []⟩ := by unfold sp1; rw [fcl_eq hf]
   rw [e3] at hr
   rw [w64_succ (i := i) (by omega)]
   exact hr) ⟨List.replicate c.Regs.toNat false, []⟩ (rt c ⟨List.replicate c.Regs.toNat false, []⟩) ⟨rfl, by simp, by simp⟩
 unfold ref32_allocator_spillCalls
 exact Ev.bind e1 (Ev.bind (Ev.loop el) (Ev.some _))
theorem wt_idx {c : VFunc} (h : Vd c) {n : Int} (h0 : 0 ≤ n) (h1 : n < c.Regs) : idx (UC c) n = some (wt (UC c) n) := by
 have hu : (UC c).length = c.Regs.toNat := by
  unfold UC
  exact foldl_inv (P := fun z : List Int => z.length = c.Regs.toNat) (fun a x _ h => by rw [ucB_len]; exact h) (by simp)
 exact inc_idx h0 (by omega)
theorem prs_si {c : VFunc} (h : Vd c) {w : List Int} {k i n : Nat} {l : List Int} (hl : RS c l) {st : AState} (hs : SI c st) (hn : n = 0 ∨ n + 5 ≤ (unsp st.sp l).length) : SI c (prs w k i n (unsp st.sp l) st) :=
 (prs_inv (P := fun _ => True) hl (fun _ _ _ _ _ _ _ _ _ _ _ => trivial) n _ st (hl.unsp _).s (fun x hx => mem_unsp.1 hx) hn hs trivial).1
theorem bst_step {w : List Int} {y : Int} {t : List Int} : bst w (y :: t) = t.foldl (fun b n => if wt w n ≤ wt w b then n else b) y := by
 unfold bst
 rw [List.foldl_cons]
 congr 1
 show (if wt w y ≤ wt w y then y else y) = y
 split <;> rfl
theorem rpr_l4 {c : VFunc} (h : Vd c) {hh : List Int} (hr : RS c hh) {y : Int} {t : List Int} (e : hh = y :: t) {s : (List Int) × Int × Int × (List Block) × (List Int) × (List Bool) × (List Spill)} (hs1 : s.1 = hh) (hs2 : s.2.2.2.2.1 = UC c) : Ev (fun K k => ref32_allocator_spillPressure_l4 K s k (y, 1)) (bst (UC c) hh) := by
 have hlen := hr.len h
 have key : ∀ n j b, j + n = hh.length → 0 ≤ b → b < c.Regs → Ev (fun K k => ref32_allocator_spillPressure_l4 K s k (b, (j : Int))) ((hh.drop j).foldl (fun b n => if wt (UC c) n ≤ wt (UC c) b then n else b) b) := by
  intro n
  induction n with
  | zero =>
   intro j b hj hb0 hb1
   have : j = hh.length := by omega
   subst this
   refine Ev.step (fun K k => rfl) (Ev.f (by rw [hs1]; simp) ((Ev.some _).cast ?_))
   rw [List.drop_length]; rfl
  | succ n ih =>
   intro j b hj hb0 hb1
   have hlt : j < hh.length := by omega
   have hg : idx s.1 (j : Int) = some hh[j] := by rw [hs1]; exact idx_get hlt
   have hxr := hr.r hh[j] (List.getElem_mem hlt)
   rw [drop_get hlt, List.foldl_cons]
   have w1 : idx s.2.2.2.2.1 hh[j] = some (wt (UC c) hh[j]) := by rw [hs2]; exact wt_idx h hxr.1 hxr.2
   have w2 : idx s.2.2.2.2.1 b = some (wt (UC c) b) := by rw [hs2]; exact wt_idx h hb0 hb1
   refine Ev.step (fun K k => rfl) (Ev.t (by rw [hs1]; simpa using hlt) (Ev.bind (x := if wt (UC c) hh[j] ≤ wt (UC c) b then hh[j] else b) (Ev.bindO hg (Ev.bindO w1 (Ev.bindO w2 ?_))) ?_))
   ·refine Ev.cnd (fun hc => Ev.bindO hg ((Ev.some _).cast ?_)) (fun hc => (Ev.some _).cast ?_)
    ·rw [if_pos (of_decide_eq_true hc)]
    ·rw [if_neg (of_decide_eq_false hc)]
   ·simp only [w64_succ (i := j) (by omega)]
    refine ih (j + 1) _ (by omega) ?_ ?_
    ·split; exact hxr.1; exact hb0
    ·split; exact hxr.2; exact hb1
 have hy := hr.r y (by rw [e]; simp)
 have := key (hh.length - 1) 1 y (by rw [e, List.length_cons]; omega) hy.1 hy.2
 refine Ev.cast this ?_
 rw [e, bst_step]; rfl
theorem rpr_l3 {c : VFunc} (h : Vd c) {k i : Nat} (hk : k < c.Blocks.length) (hi : i ≤ (bk c k).Instrs.length) {s6 s16 : Int × Int × Int × (List Block) × (List Int) × (List Bool) × (List Spill)} (h6 : s6.1 = (k : Int)) (h16 : s16.1 = (i : Int)) : ∀ (n : Nat) (st : AState), SI c st → (n = (unsp st.sp (lp (bk c k) (LO c k) i)).length - 5) →
  Ev (fun K m => ref32_allocator_spillPressure_l3 K s6 (LPs c k) s16 m (unsp st.sp (lp (bk c k) (LO c k) i), rt c st)) (rt c (prs (UC c) k i n (unsp st.sp (lp (bk c k) (LO c k) i)) st)) := by
 have hl := RS.lp (h.iv hk) (h.e hk) (RS.LO h k) i
 intro n
 induction n with
 | zero =>
  intro st hs hn
  exact Ev.step (fun K k => rfl) (Ev.f (by simp; omega) (Ev.some _))
 | succ n ih =>
  intro st hs hn
  have hsl := hs.l
  have hss := hs.len h
  have hr1 := h.h.r1
  have hu := hl.unsp st.sp
  have hulen := hu.len h
  generalize hh : unsp st.sp (lp (bk c k) (LO c k) i) = H at hn hu hulen
  obtain ⟨y, t, e⟩ : ∃ y t, H = y :: t := by
   cases H with
   | nil => simp at hn
   | cons y t => exact ⟨y, t, rfl⟩
  have hb : bst (UC c) H ∈ H := bst_mem (by rw [e]; simp)
  have hbr := hu.r _ hb
  have hbu : isSp st.sp (bst (UC c) H) = false := (mem_unsp.1 (hh.symm ▸ hb : bst (UC c) H ∈ unsp st.sp (lp (bk c k) (LO c k) i))).2
  have hmlen := mns_one_len hu.s hb
  have e1 : idx H 0 = some y := by rw [e]; exact idx_eq (i := 0) rfl
  have e3 := rspill_eq (c := c) (w := UC c) (st := st) (x := ⟨bst (UC c) H, 2, (k : Int), (i : Int), mns H [bst (UC c) H]⟩) hbr.1 (by show bst (UC c) H < _; omega) (by omega)
  have hs' := hs.spl (x := ⟨bst (UC c) H, 2, (k : Int), (i : Int), mns H [bst (UC c) H]⟩) hbr.1 hbr.2 hbu
  have e4 := unsp_set hsl hl hbr.1 hbr.2
  rw [hh] at e4
  have e5 : idx (LPs c k) (i : Int) = some (lp (bk c k) (LO c k) i) := idx_eq (by unfold LPs lps; rw [List.getElem?_map, List.getElem?_range (by omega)]; rfl)
  refine Ev.step (fun K k => rfl) (Ev.t (by simp; omega) (Ev.bindO e1 (Ev.bind (Ev.loop (rpr_l4 h hu e rfl rfl)) (Ev.bind (ev_minus (a := H) (b := [bst (UC c) H]) (by unfold Sm; omega) (by simp [Sm])) (Ev.bindO (x := ⟨c, (spl st ⟨bst (UC c) H, 2, (k : Int), (i : Int), mns H [bst (UC c) H]⟩).sp, (spl st ⟨bst (UC c) H, 2, (k : Int), (i : Int), mns H [bst (UC c) H]⟩).ss, UC c⟩) ?_ ?_)))))
  ·rw [h6, h16]; exact e3
  ·rw [h16]
   refine Ev.bindO e5 (Ev.bind (ev_notSp h hs'.l hl) ?_)
   have := ih (spl st ⟨bst (UC c) H, 2, (k : Int), (i : Int), mns H [bst (UC c) H]⟩) hs' (by
    show n = (unsp (st.sp.set (bst (UC c) H).toNat true) _).length - 5
    rw [e4]; omega)
   have e6 : unsp (spl st ⟨bst (UC c) H, 2, (k : Int), (i : Int), mns H [bst (UC c) H]⟩).sp (lp (bk c k) (LO c k) i) = mns H [bst (UC c) H] := e4
   rw [e6] at this ⊢
   exact this
theorem rpr_l2 {c : VFunc} (h : Vd c) {k : Nat} (hk : k < c.Blocks.length) {s6 : Int × Int × Int × (List Block) × (List Int) × (List Bool) × (List Spill)} (h6 : s6.1 = (k : Int)) {st : AState} (hs : SI c st) : Ev (fun K m => ref32_allocator_spillPressure_l2 K s6 (LPs c k) m (0, rt c st)) (rt c (ph2B c (UC c) st k)) ∧ SI c (ph2B c (UC c) st k) := by
 have hlen := h.len hk
 have hL : (LPs c k).length = (bk c k).Instrs.length + 1 := by simp [LPs, lps]
 obtain ⟨s', ⟨rfl, hs'⟩, el⟩ := ev_foldi (List.range ((bk c k).Instrs.length + 1)) (fun K m i s => ref32_allocator_spillPressure_l2 K s6 (LPs c k) m (i, s)) id (ph2P c (UC c) k) (fun n st s => s = rt c st ∧ SI c st)
  (fun a s hs => Ev.step (fun K k => rfl) (Ev.f (by simp [hL]) (Ev.some _)))
  (fun j i st s hx hj hs => by
   obtain ⟨rfl, hj⟩ := rng_get hx
   obtain ⟨rfl, hs⟩ := hs
   have hl := RS.lp (h.iv hk) (h.e hk) (RS.LO h k) i
   have e5 : idx (LPs c k) (i : Int) = some (lp (bk c k) (LO c k) i) := idx_eq (by unfold LPs lps; rw [List.getElem?_map, List.getElem?_range (by omega)]; rfl)
   refine ⟨rt c (ph2P c (UC c) k st i), ⟨rfl, prs_si h hl hs (by omega)⟩, fun r hr => Ev.step (fun K k => rfl) (Ev.t (by simp [hL]; omega) (Ev.bindO e5 (Ev.bind (ev_notSp h hs.l hl) (Ev.bind (Ev.loop (rpr_l3 h hk (by omega) h6 (s16 := ((i : Int), rt c st)) rfl _ st hs rfl)) ?_))))⟩
   rw [w64_succ (i := i) (by omega)]
   exact hr) st (rt c st) ⟨rfl, hs⟩
 exact ⟨el, hs'⟩
theorem ev_spillPressure {c : VFunc} (h : Vd c) {st : AState} (hs : SI c st) : Ev (fun K _ => ref32_allocator_spillPressure K (⟨c, st.sp, st.ss, UC c⟩ : Fullingref32Allocator)) ⟨c, (ph2 c st).sp, (ph2 c st).ss, UC c⟩ := by
 have hb1 := h.h.b1
 obtain ⟨s', ⟨rfl, hs'⟩, el⟩ := ev_foldi (List.range c.Blocks.length) (fun K m i s => ref32_allocator_spillPressure_l1 K m (i, s)) id (ph2B c (UC c)) (fun n st s => s = rt c st ∧ SI c st)
  (fun a s hs => by obtain ⟨rfl, _⟩ := hs; exact Ev.step (fun K k => rfl) (Ev.f (by simp [rt]) (Ev.some _)))
  (fun j i st s hx hj hs => by
   obtain ⟨rfl, hj⟩ := rng_get hx
   obtain ⟨rfl, hs⟩ := hs
   obtain ⟨e1, hs'⟩ := rpr_l2 h hj (s6 := ((i : Int), rt c st)) rfl hs
   refine ⟨rt c (ph2B c (UC c) st i), ⟨rfl, hs'⟩, fun r hr => Ev.step (fun K k => rfl) (Ev.t (by simp [rt]; omega) (Ev.bind (ev_rpoints h hj) (Ev.bind (Ev.loop e1) ?_)))⟩
   rw [w64_succ (i := i) (by omega)]
   exact hr) st (rt c st) ⟨rfl, hs⟩
 unfold ref32_allocator_spillPressure
 exact Ev.bind (Ev.loop el) (Ev.some _)
end Go.Proofs.YtocfnpnnbmicmaaDoor.Tc
end
section
set_option linter.unusedVariables false
set_option linter.unusedSimpArgs false
namespace Go.Proofs.YtocfnpnnbmicmaaDoor.Tc
open Go
theorem frM_some {l : List Int} {sp : List Bool} {loc : List Location} {r m : Nat} (hm : m < 5) (h1 : ∀ j : Nat, j < m → 0 ≤ own l sp loc r j) (h2 : own l sp loc r m < 0) : frM l sp loc r = some m := by
 unfold frM
 rw [List.find?_range_eq_some]
 exact ⟨by simpa using h2, List.mem_range.2 hm, fun j hj => by have := h1 j hj; simp; omega⟩
theorem frM_none {l : List Int} {sp : List Bool} {loc : List Location} {r : Nat} (h1 : ∀ j : Nat, j < 5 → 0 ≤ own l sp loc r j) : frM l sp loc r = none := by
 unfold frM
 rw [List.find?_eq_none]
 intro j hj
 have := h1 j (List.mem_range.1 hj)
 simp; omega
structure HAD (c : VFunc) (had sp : List Bool) (r : Nat) : Prop where
 l : had.length = c.Regs.toNat
 b : ∀ y : Int, 0 ≤ y → y < c.Regs → isSp had y = (decide (y < (r : Int)) && !(isSp sp y))
abbrev RS9 := Int × (List Bool) × (List Location) × Int × Int × (List Block) × (List Int) × (List Bool) × (List Spill)
theorem ral_l3 {c : VFunc} (h : Vd c) {r : Nat} (hr : r < c.Regs.toNat) {sp : List Bool} {loc : List Location} {s37 : RS9} (h1 : s37.1 = (r : Int)) (h2 : HAD c s37.2.1 sp r) (h3 : s37.2.2.1 = loc) (hl : loc.length = c.Regs.toNat) {m : Int} {s58 : Int × List Int} (h58 : s58.1 = m) : Ev (fun K k => ref32_Allocate_l3 K (IFs c) s37 s58 k (-1, ((IF c r).length : Int) - 1)) (own (IF c r) sp loc r m) := by
 have g := gr_IF h
 have hlen := (g.s r).len h
 have hx : idx (IFs c) s37.1 = some (IF c r) := by rw [h1]; exact idx_eq (IFs_get hr)
 have key : ∀ j, j ≤ (IF c r).length → Ev (fun K k => ref32_Allocate_l3 K (IFs c) s37 s58 k ((((IF c r).drop j).find? (owP sp loc r m)).getD (-1), (j : Int) - 1)) (own (IF c r) sp loc r m) := by
  intro j
  induction j with
  | zero => intro _; exact Ev.step (fun K k => rfl) (Ev.f (by simp) ((Ev.some _).cast (by rw [List.drop_zero]; rfl)))
  | succ j ih =>
   intro hj
   have hlt : j < (IF c r).length := hj
   have hidx : ((j + 1 : Nat) : Int) - 1 = (j : Int) := by omega
   have hw : w64 ((j : Int) - 1) = (j : Int) - 1 := w64_id (by omega) (by omega)
   have hy := (g.s r).r _ (List.getElem_mem hlt)
   have e1 := idx_get hlt
   have e2 := isSp_idx (sp := s37.2.1) hy.1 (by rw [h2.l]; omega)
   have e3 := locL_idx (loc := s37.2.2.1) hy.1 (by rw [h3, hl]; omega)
   have hh := h2.b _ hy.1 hy.2
   refine Ev.step (fun K k => rfl) (Ev.t (by simp) ?_)
   simp only [hidx, hw]
   refine Ev.bind (x := (((IF c r).drop j).find? (owP sp loc r m)).getD (-1)) (Ev.bindO hx (Ev.bindO e1 (Ev.bindO e2 (Ev.bind (x := owP sp loc r m (IF c r)[j]) ?_ ?_)))) (ih (by omega))
   ·unfold owP
    rw [← hh]
    cases hc : isSp s37.2.1 (IF c r)[j] with
    | false => exact Ev.f rfl (Ev.some _)
    | true => exact Ev.t rfl (Ev.bindO e3 ((Ev.some _).cast (by rw [h58, h3]; rfl)))
   ·rw [drop_get hlt, List.find?_cons]
    cases owP sp loc r m (IF c r)[j] with
    | true => exact Ev.t rfl (Ev.some _)
    | false => exact Ev.f rfl (Ev.some _)
 have := key (IF c r).length (Nat.le_refl _)
 rw [List.drop_length] at this
 exact this
noncomputable def colR (c : VFunc) (sp had : List Bool) (loc : List Location) (r : Nat) : (List Int) × (List Bool) × (List Location) :=
 match frM (IF c r) sp loc r with
 | some m => ((List.range m).map (fun m : Nat => own (IF c r) sp loc r m), had.set r true, loc.set r ⟨false, (m : Int)⟩)
 | none => (owns (IF c r) sp loc r, had, loc)
theorem ral_l2 {c : VFunc} (h : Vd c) {r : Nat} (hr : r < c.Regs.toNat) {sp had : List Bool} {loc : List Location} {s37 : RS9} (h1 : s37.1 = (r : Int)) (e2 : s37.2.1 = had) (h2 : HAD c had sp r) (h3 : s37.2.2.1 = loc) (hl : loc.length = c.Regs.toNat) : Ev (fun K k => ref32_Allocate_l2 K (IFs c) s37 k (0, [])) (colR c sp had loc r) := by
 have hlen := ((gr_IF h).s r).len h
 have hx : idx (IFs c) s37.1 = some (IF c r) := by rw [h1]; exact idx_eq (IFs_get hr)
 have hw : w64 (((IF c r).length : Int) - 1) = ((IF c r).length : Int) - 1 := w64_id (by omega) (by omega)
 have i2 := isSp_idx (sp := s37.2.1) (r := s37.1) (by omega) (by rw [e2, h2.l]; omega)
 have i3 := locL_idx (loc := s37.2.2.1) (r := s37.1) (by omega) (by rw [h3, hl]; omega)
 have key : ∀ n m : Nat, m + n = 5 → (∀ j : Nat, j < m → 0 ≤ own (IF c r) sp loc r j) → Ev (fun K k => ref32_Allocate_l2 K (IFs c) s37 k ((m : Int), (List.range m).map (fun m : Nat => own (IF c r) sp loc r m))) (colR c sp had loc r) := by
  intro n
  induction n with
  | zero =>
   intro m hm hj
   have : m = 5 := by omega
   subst this
   refine Ev.step (fun K k => rfl) (Ev.f rfl ((Ev.some _).cast ?_))
   unfold colR
   rw [frM_none hj]
   show (_, s37.2.1, s37.2.2.1) = _
   rw [e2, h3]; rfl
  | succ n ih =>
   intro m hm hj
   have e3 := ral_l3 h hr h1 (by rw [e2]; exact h2) h3 hl (m := (m : Int)) (s58 := ((m : Int), (List.range m).map (fun m : Nat => own (IF c r) sp loc r m))) rfl
   refine Ev.step (fun K k => rfl) (Ev.t (by simp; omega) (Ev.bindO hx ?_))
   simp only [hw]
   refine Ev.bind (Ev.loop e3) (Ev.cnd (fun hc => ?_) (fun hc => ?_))
   ·refine Ev.bindO i3 (Ev.bindO i2 ((Ev.some _).cast ?_))
    unfold colR
    rw [frM_some (by omega) hj (of_decide_eq_true hc)]
    show (_, s37.2.1.set s37.1.toNat true, s37.2.2.1.set s37.1.toNat _) = _
    rw [e2, h3, h1, Int.toNat_natCast]
   ·refine Ev.bindO (app_eq (by simp; omega) (by simp; omega)) ?_
    have := ih (m + 1) (by omega) (fun j hj2 => by
     by_cases q : j = m
     ·subst q; have := of_decide_eq_false hc; omega
     ·exact hj j (by omega))
    rw [w64_succ (i := m) (by omega)]
    rw [List.range_succ, List.map_append] at this
    exact this
 exact key 5 0 (by omega) (fun j hj => by omega)
theorem isSp_setN {sp : List Bool} {b : Bool} {x : Nat} (hx : x < sp.length) {r : Int} (hr : 0 ≤ r) : isSp (sp.set x b) r = if r = (x : Int) then b else isSp sp r := by
 unfold isSp
 rw [List.getD_eq_getElem?_getD, List.getD_eq_getElem?_getD]
 by_cases e : r = (x : Int)
 ·subst e; rw [if_pos rfl, Int.toNat_natCast, List.getElem?_set_self hx]; rfl
 ·rw [if_neg e, List.getElem?_set_ne (by omega)]
theorem ral_l1 {c : VFunc} (h : Vd c) {q0 : AState × List Location} (h0 : C3 c 0 q0) : ∃ had, Ev (fun K k => ref32_Allocate_l1 K c (IFs c) k (0, List.replicate c.Regs.toNat false, q0.2, rt c q0.1)) (had, ((List.range c.Regs.toNat).foldl (col c) q0).2, rt c ((List.range c.Regs.toNat).foldl (col c) q0).1) := by
 have hr1 := h.h.r1
 have hr0 := h.h.r0
 obtain ⟨s', ⟨had, rfl, _⟩, el⟩ := ev_foldi (List.range c.Regs.toNat) (fun K k i s => ref32_Allocate_l1 K c (IFs c) k (i, s)) id (col c) (fun r q s => ∃ had, s = (had, q.2, rt c q.1) ∧ HAD c had q.1.sp r ∧ C3 c r q)
  (fun a s hs => Ev.step (fun K k => rfl) (Ev.f (by simp; omega) (Ev.some _)))
  (fun j r q s hx hj hs => by
   obtain ⟨rfl, hj⟩ := rng_get hx
   obtain ⟨had, rfl, hh, h3⟩ := hs
   have hnext := h3.step h hj
   have hl := h3.l
   have hsl := h3.s.l
   have hss := h3.s.len h
   have i1 := isSp_idx (sp := q.1.sp) (r := (r : Int)) (by omega) (by omega)
   have hhr := hh.b (r : Int) (by omega) (by omega)
   have hhr : isSp had (r : Int) = false := by rw [hhr]; simp
   have i2 := isSp_idx (sp := had) (r := (r : Int)) (by omega) (by rw [hh.l]; omega)
   have key : ∃ had', HAD c had' (col c q r).1.sp (r + 1) ∧ ∀ K0 : Unit, Ev (fun (K k : Nat) => Option.bind (idx q.1.sp (r : Int)) (fun y45 => (cnd y45 (some (had, q.2, rt c q.1)) (Option.bind (Option.bind (ref32_Allocate_l2 K (IFs c) ((r : Int), had, q.2, rt c q.1) K (0, ([] : List Int))) (fun s53 => (some (s53.1, s53.2.1, s53.2.2)))) (fun s48 => (Option.bind (idx s48.2.1 (r : Int)) (fun y97 => (cnd (!y97) (Option.bind (ref32_allocator_spill (⟨c, q.1.sp, q.1.ss, UC c⟩ : Fullingref32Allocator) (⟨(r : Int), 3, 0, 0, s48.1⟩ : Spill)) (fun r100 => (some (s48.2.1, s48.2.2, r100.C.Params, r100.C.Regs, r100.C.Blocks, r100.Weight, r100.Spilled, r100.Spills)))) (some (s48.2.1, s48.2.2, rt c q.1)))))))))) (had', (col c q r).2, rt c (col c q r).1) := by
    unfold col
    cases hsp : isSp q.1.sp (r : Int) with
    | true =>
     rw [if_pos rfl]
     refine ⟨had, ⟨hh.l, fun y hy0 hy1 => ?_⟩, fun _ => Ev.bindO i1 (Ev.t hsp (Ev.some _))⟩
     rw [hh.b y hy0 hy1]
     by_cases e : y = (r : Int)
     ·subst e; rw [hsp]; simp
     ·congr 1; rw [Bool.eq_iff_iff]; simp; omega
    | false =>
     rw [if_neg (by simp)]
     have e2 := ral_l2 h hj (s37 := ((r : Int), had, q.2, rt c q.1)) rfl rfl hh rfl hl
     cases hf : frM (IF c r) q.1.sp q.2 r with
     | some m =>
      have e3 : colR c q.1.sp had q.2 r = ((List.range m).map (fun m : Nat => own (IF c r) q.1.sp q.2 r m), had.set r true, q.2.set r ⟨false, (m : Int)⟩) := by unfold colR; rw [hf]
      rw [e3] at e2
      have i4 := isSp_idx (sp := had.set r true) (r := (r : Int)) (by omega) (by simp [hh.l]; omega)
      rw [isSp_setN (by rw [hh.l]; exact hj) (by omega), if_pos rfl] at i4
      refine ⟨had.set r true, ⟨by simp [hh.l], fun y hy0 hy1 => ?_⟩, fun _ => Ev.bindO i1 (Ev.f hsp (Ev.bind (Ev.bind (Ev.loop e2) (Ev.some _)) (Ev.bindO i4 (Ev.f rfl (Ev.some _)))))⟩
      rw [isSp_setN (by rw [hh.l]; exact hj) hy0]
      show _ = (decide (y < ((r + 1 : Nat) : Int)) && !(isSp q.1.sp y))
      by_cases e : y = (r : Int)
      ·subst e; rw [if_pos rfl, hsp]; simp; omega
      ·rw [if_neg e, hh.b y hy0 hy1]; congr 1; rw [Bool.eq_iff_iff]; simp; omega
     | none =>
      have e3 : colR c q.1.sp had q.2 r = (owns (IF c r) q.1.sp q.2 r, had, q.2) := by unfold colR; rw [hf]
      rw [e3] at e2
      rw [hhr] at i2
      have e4 := rspill_eq (c := c) (w := UC c) (st := q.1) (x := ⟨(r : Int), 3, 0, 0, owns (IF c r) q.1.sp q.2 r⟩) (show (0 : Int) ≤ r by omega) (show (r : Int) < _ by omega) (by omega)
      refine ⟨had, ⟨hh.l, fun y hy0 hy1 => ?_⟩, fun _ => Ev.bindO i1 (Ev.f hsp (Ev.bind (Ev.bind (Ev.loop e2) (Ev.some _)) (Ev.bindO i2 (Ev.t rfl (Ev.bindO e4 (Ev.some _))))))⟩
      show isSp had y = (decide (y < ((r + 1 : Nat) : Int)) && !(isSp (q.1.sp.set (r : Int).toNat true) y))
      rw [isSp_set (by omega) (by omega) hy0, hh.b y hy0 hy1]
      by_cases e : y = (r : Int)
      ·subst e; simp
      ·have e5 : (y == (r : Int)) = false := by simpa using e
       rw [e5, Bool.or_false]; congr 1; rw [Bool.eq_iff_iff]; simp; omega
   obtain ⟨had', hh', ek⟩ := key
   refine ⟨(had', (col c q r).2, rt c (col c q r).1), ⟨had', rfl, hh', hnext⟩, fun r' hr' => Ev.step (fun K k => rfl) (Ev.t (by simp; omega) (Ev.bind (ek ()) ?_))⟩
   rw [w64_succ (i := r) (by omega)]
   exact hr') q0 (List.replicate c.Regs.toNat false, q0.2, rt c q0.1) ⟨_, rfl, ⟨by simp, fun y hy0 hy1 => by
    unfold isSp
    rw [List.getD_eq_getElem?_getD, List.getElem?_replicate]
    have : decide (y < ((0 : Nat) : Int)) = false := by simp; omega
    rw [this]
    split <;> rfl⟩, h0⟩
 exact ⟨had, el⟩
theorem ral_l4 {c : VFunc} (h : Vd c) {s32 : (List Bool) × (List Location) × Int × Int × (List Block) × (List Int) × (List Bool) × (List Spill)} (hs : s32.2.2.2.2.2.2.1 = (fin3 c).1.sp) : Ev (fun K k => ref32_Allocate_l4 K c s32 k (0, c.Params, (fin3 c).2)) ((fin4 c).2, (fin4 c).1) := by
 have hr1 := h.h.r1
 have hr0 := h.h.r0
 have hp0 := h.h.p0
 have hp1 := h.h.p1
 have h3 := c3_fin h
 have hsl := h3.s.l
 obtain ⟨s', ⟨rfl, _⟩, el⟩ := ev_foldi (List.range c.Regs.toNat) (fun K k i s => ref32_Allocate_l4 K c s32 k (i, s)) id (slo (fin3 c).1.sp) (fun r q s => s = (q.2, q.1) ∧ C4 c (fin3 c).1.sp (fin3 c).2 r q)
  (fun a s hs => Ev.step (fun K k => rfl) (Ev.f (by simp; omega) (Ev.some _)))
  (fun j r q s hx hj hs' => by
   obtain ⟨rfl, hj⟩ := rng_get hx
   obtain ⟨rfl, h4⟩ := hs'
   have hnext := h4.step hj
   have hl := h4.l
   have hb := h4.b
   have i1 := isSp_idx (sp := (fin3 c).1.sp) (r := (r : Int)) (by omega) (by omega)
   rw [← hs] at i1
   have i3 := locL_idx (loc := q.1) (r := (r : Int)) (by omega) (by omega)
   have hw : w64 (q.2 + 1) = q.2 + 1 := w64_id (by omega) (by omega)
   refine ⟨((slo (fin3 c).1.sp q r).2, (slo (fin3 c).1.sp q r).1), ⟨rfl, hnext⟩, fun r' hr' => Ev.step (fun K k => rfl) (Ev.t (by simp; omega) (Ev.bind (x := ((slo (fin3 c).1.sp q r).2, (slo (fin3 c).1.sp q r).1)) (Ev.bindO i1 ?_) ?_))⟩
   ·rw [hs]
    unfold slo
    cases isSp (fin3 c).1.sp (r : Int) with
    | true => exact Ev.t rfl (Ev.bindO i3 ((Ev.some _).cast (by rw [hw, Int.toNat_natCast]; rfl)))
    | false => exact Ev.f rfl (Ev.some _)
   ·rw [w64_succ (i := r) (by omega)]
    exact hr') ((fin3 c).2, c.Params) (c.Params, (fin3 c).2) ⟨rfl, ⟨h3.l, fun y hy => rfl, fun y hy => by omega, fun y z hy => by omega, by show _ ≤ c.Params ∧ c.Params ≤ _; omega⟩⟩
 exact el
theorem c3_start {c : VFunc} (h : Vd c) : C3 c 0 (ph2 c (ph1 c), loc0 c) := by
 obtain ⟨h1, h2, h3⟩ := ph2_ok h
 exact ⟨h1, by simp [loc0], h2, fun y hy => by omega, fun y z hy => by omega, h3 _ _ _⟩
theorem ev_ralloc {c : VFunc} (h : Vd c) : Ev (fun K _ => ref32_Allocate K c) (AL c) := by
 have hb0 := h.h.b0
 unfold ref32_Allocate
 refine Ev.bind (ev_rvalid h.sm) (Ev.f (by rw [h.v]; rfl) (Ev.bind (ev_rblocks h) (Ev.bindO (idx_eq (i := 0) (LIs_get (by omega))) ?_)))
 refine Ev.cnd (fun hc => (Ev.some _).cast ?_) (fun hc => ?_)
 ·unfold AL; rw [if_pos (by have := of_decide_eq_true hc; omega)]
 ·have hn : ¬ (LI c 0).length > 0 := by have := of_decide_eq_false hc; omega
  have e1 := ev_spillCalls h
  have e2 := ev_spillPressure h (ph1_ok h).1
  obtain ⟨had, e3⟩ := ral_l1 h (c3_start h)
  have e4 := ral_l4 h (s32 := (had, (fin3 c).2, rt c (fin3 c).1)) rfl
  refine Ev.bindO (mkR h (by omega) _) (Ev.bind (ev_ruc h) (Ev.bind e1 (Ev.bind e2 (Ev.bind (ev_rint h) (Ev.bindO (mkR h (by omega) _) (Ev.bindO (mkR h (by omega) _) (Ev.bind (Ev.loop e3) (Ev.bind (Ev.loop e4) ?_))))))))
  unfold AL
  rw [if_neg hn]
  refine Ev.cnd (fun hc => (Ev.some _).cast ?_) (fun hc => (Ev.some _).cast ?_)
  ·rw [if_pos (of_decide_eq_true hc)]
  ·rw [if_neg (of_decide_eq_false hc)]; rfl
theorem ev_ralloc0 {c : VFunc} (h : SmF c) (hv : validB c = false) : Ev (fun K _ => ref32_Allocate K c) (⟨[], [], 0⟩, 1) := by
 unfold ref32_Allocate
 exact Ev.bind (ev_rvalid h) (Ev.t (by rw [hv]; rfl) (Ev.some _))
end Go.Proofs.YtocfnpnnbmicmaaDoor.Tc
end
section
set_option linter.unusedVariables false
set_option linter.unusedSimpArgs false
namespace Go.Proofs.YtocfnpnnbmicmaaDoor.Tc
open Go
noncomputable def PTs (c : VFunc) : List (List (List Int)) := (List.range c.Blocks.length).map (PT c)
theorem PTs_idx {c : VFunc} {k : Nat} (hk : k < c.Blocks.length) : idx (PTs c) (k : Int) = some (PT c k) := idx_eq (by unfold PTs; rw [List.getElem?_map, List.getElem?_range hk]; rfl)
theorem PT_idx {c : VFunc} {k i : Nat} (h : i ≤ (bk c k).Instrs.length) : idx (PT c k) (i : Int) = some (lp (bk c k) (LO c k) i) := idx_eq (PT_get h)
abbrev PS8 := Int × Int × (List Block) × (List (List (List Int))) × Int × (List Bool) × (List Location) × (List Spill)
noncomputable def pt (c : VFunc) (st : AState) (loc : List Location) : PS8 := (c.Params, c.Regs, c.Blocks, PTs c, 0, st.sp, loc, st.ss)
noncomputable def pg (c : VFunc) (st : AState) (loc : List Location) : RegallocAllocator := ⟨c, PTs c, st.sp, ⟨loc, st.ss, 0⟩⟩
theorem pspill_eq {c : VFunc} {st : AState} {loc : List Location} {x : Spill} (h0 : 0 ≤ x.Reg) (h1 : x.Reg < st.sp.length) (hl : st.ss.length ≤ 5000) : regalloc_allocator_spill (pg c st loc) x = some (pg c (spl st x) loc) := by
 unfold regalloc_allocator_spill pg
 simp only [isSp_idx h0 h1, Option.bind_some]
 rw [app_eq (by simp; omega) (by simp; omega)]; rfl
theorem ev_punsp {c : VFunc} (h : Vd c) {a : RegallocAllocator} (hl : a.spilled.length = c.Regs.toNat) {l : List Int} (hr : RS c l) : Ev (fun K _ => regalloc_allocator_unspilled K a l) (unsp a.spilled l) := by
 have hlen := hr.len h
 have loop : ∀ (m p s : List Int), l = p ++ m → s.length + m.length ≤ 3000 → Ev (fun K k => regalloc_allocator_unspilled_l1 K a l k ((p.length : Int), s)) (s ++ unsp a.spilled m) := by
  intro m
  induction m with
  | nil =>
   intro p s e _
   refine Ev.step (fun K k => rfl) (Ev.f ?_ ((Ev.some _).cast (by simp [unsp])))
   subst e; simp
  | cons y m ih =>
   intro p s e hs
   have hg : idx l (p.length : Int) = some y := idx_eq (by subst e; simp)
   have hlt : (p.length : Int) < (l.length : Int) := by subst e; simp; omega
   have hw : w64 ((p.length : Int) + 1) = ((p ++ [y]).length : Int) := by
    rw [w64_id (by omega) (by omega)]; simp
   have hy := hr.r y (by subst e; simp)
   simp only [List.length_cons] at hs
   have hsp := isSp_idx (sp := a.spilled) hy.1 (by omega)
   cases hb : isSp a.spilled y with
   | true =>
    rw [hb] at hsp
    refine Ev.step (fun K k => rfl) (Ev.t (by simpa using hlt) (Ev.bind (x := s) (Ev.bindO hg (Ev.bindO hsp (Ev.f rfl (Ev.some _)))) ?_))
    simp only [hw]
    refine (ih (p ++ [y]) s (by subst e; simp) (by omega)).cast ?_
    unfold unsp; rw [List.filter_cons, hb]; rfl
   | false =>
    rw [hb] at hsp
    refine Ev.step (fun K k => rfl) (Ev.t (by simpa using hlt) (Ev.bind (x := s ++ [y]) (Ev.bindO hg (Ev.bindO hsp (Ev.t rfl (Ev.bindO (app_eq (by simp; omega) (by simp; omega)) (Ev.some _))))) ?_))
    simp only [hw]
    refine (ih (p ++ [y]) (s ++ [y]) (by subst e; simp) (by simp; omega)).cast ?_
    unfold unsp; rw [List.filter_cons, hb]; simp
 unfold regalloc_allocator_unspilled
 exact Ev.bind (Ev.loop (loop l [] [] rfl (by simpa using hlen))) ((Ev.some _).cast (by simp))
def ptL (l : List RegallocPoint) (r : Int) : RegallocPoint := l.getD r.toNat ⟨0, 0⟩
theorem ptL_idx {l : List RegallocPoint} {r : Int} (h0 : 0 ≤ r) (h1 : r < l.length) : idx l r = some (ptL l r) := by
 have hlt : r.toNat < l.length := by omega
 have := idx_get hlt
 rw [show ((r.toNat : Nat) : Int) = r by omega] at this
 unfold ptL
 rw [this, List.getD_eq_getElem?_getD, List.getElem?_eq_getElem hlt]; rfl
theorem ptL_set {l : List RegallocPoint} {x : Int} {p : RegallocPoint} (h0 : 0 ≤ x) (h1 : x < l.length) {r : Int} (hr : 0 ≤ r) : ptL (l.set x.toNat p) r = if r = x then p else ptL l r := by
 unfold ptL
 rw [List.getD_eq_getElem?_getD, List.getD_eq_getElem?_getD]
 by_cases e : r = x
 ·subst e; rw [if_pos rfl, List.getElem?_set_self (by omega)]; rfl
 ·rw [if_neg e, List.getElem?_set_ne (by omega)]
def noB (c : VFunc) (k i : Nat) (y : Int) : Prop := ∀ k' i', k' < c.Blocks.length → i' < (bk c k').Instrs.length → (k' < k ∨ k' = k ∧ i' < i) → y ∉ acv (iAt (bk c k') i') (lp (bk c k') (LO c k') (i' + 1))
structure FS (c : VFunc) (k i : Nat) (p : List Int) (s : (List Bool) × (List RegallocPoint)) : Prop where
 l1 : s.1.length = c.Regs.toNat
 l2 : s.2.length = c.Regs.toNat
 t : ∀ y : Int, 0 ≤ y → y < c.Regs → isSp s.1 y = true → ∃ k' i', Fst c y k' i' ∧ ptL s.2 y = ⟨(k' : Int), (i' : Int)⟩
 f : ∀ y : Int, 0 ≤ y → y < c.Regs → isSp s.1 y = false → noB c k i y ∧ y ∉ p
theorem pca_l3 {c : VFunc} (h : Vd c) {k i : Nat} (hk : k < c.Blocks.length) (hi : i < (bk c k).Instrs.length) {l : List Int} (hl : l.length ≤ 10000) (hm : ∀ y, y ∈ l → (0 ≤ y ∧ y < c.Regs) ∧ y ∈ acv (iAt (bk c k) i) (lp (bk c k) (LO c k) (i + 1))) {s12 s23 : Int × (List Bool) × (List RegallocPoint)} (h12 : s12.1 = (k : Int)) (h23 : s23.1 = (i : Int)) {s : (List Bool) × (List RegallocPoint)} (hs : FS c k i [] s) : ∃ s', FS c k i l s' ∧ Ev (fun K n => regalloc_allocator_spillAcrossCalls_l3 K s12 s23 l l n (0, s)) s' := by
 obtain ⟨s', hs', el⟩ := ev_foldi l (fun K n j s => regalloc_allocator_spillAcrossCalls_l3 K s12 s23 l l n (j, s)) id (fun (_ : Unit) _ => ()) (fun j _ s => FS c k i (l.take j) s)
  (fun a s hs => Ev.step (fun K k => rfl) (Ev.f (by simp) (Ev.some _)))
  (fun j y _ s hy hj hs => by
   have hyl := List.mem_of_getElem? hy
   obtain ⟨hyr, hya⟩ := hm y hyl
   have e1 := isSp_idx (sp := s.1) hyr.1 (by have := hs.l1; omega)
   have e2 := ptL_idx (l := s.2) hyr.1 (by have := hs.l2; omega)
   have htake : l.take (j + 1) = l.take j ++ [y] := by rw [List.take_add_one, hy]; rfl
   have key : ∃ s', FS c k i (l.take (j + 1)) s' ∧ Ev (fun (K n : Nat) => Option.bind (idx l (j : Int)) (fun y60 => (Option.bind (idx s.1 y60) (fun y62 => (cnd (!y62) (Option.bind (idx s.1 y60) (fun y65 => (Option.bind (idx s.2 y60) (fun y67 => (some ((s.1.set y60.toNat true), (s.2.set y60.toNat (⟨s12.1, s23.1⟩ : RegallocPoint)))))))) (some (s.1, s.2))))))) s' := by
    cases hsp : isSp s.1 y with
    | true =>
     rw [hsp] at e1
     refine ⟨s, ⟨hs.l1, hs.l2, hs.t, fun z h0 h1 hz => ⟨(hs.f z h0 h1 hz).1, ?_⟩⟩, Ev.bindO (idx_eq hy) (Ev.bindO e1 (Ev.f rfl (Ev.some _)))⟩
     rw [htake, List.mem_append, List.mem_singleton]
     rintro (q | q)
     ·exact (hs.f z h0 h1 hz).2 q
     ·rw [q, hsp] at hz; cases hz
    | false =>
     have hf := hs.f y hyr.1 hyr.2 hsp
     have e1' := e1
     rw [hsp] at e1
     refine ⟨(s.1.set y.toNat true, s.2.set y.toNat ⟨(k : Int), (i : Int)⟩), ⟨by simp [hs.l1], by simp [hs.l2], fun z h0 h1 hz => ?_, fun z h0 h1 hz => ?_⟩, Ev.bindO (idx_eq hy) (Ev.bindO e1 (Ev.t rfl (Ev.bindO e1' (Ev.bindO e2 ((Ev.some _).cast (by rw [h12, h23]))))))⟩
     ·have hp := ptL_set (l := s.2) (p := ⟨(k : Int), (i : Int)⟩) hyr.1 (by have := hs.l2; omega) h0
      show ∃ k' i', _ ∧ ptL (s.2.set _ _) z = _
      rw [hp]
      by_cases e : z = y
      ·exact ⟨k, i, by rw [e]; exact ⟨hk, hi, hya, hf.1⟩, by rw [if_pos e]⟩
      ·rw [if_neg e]
       refine hs.t z h0 h1 ?_
       have hz2 : isSp (s.1.set y.toNat true) z = true := hz
       rw [isSp_set hyr.1 (by have := hs.l1; omega) h0] at hz2
       simpa [e] using hz2
     ·have hz2 : isSp (s.1.set y.toNat true) z = false := hz
      rw [isSp_set hyr.1 (by have := hs.l1; omega) h0, Bool.or_eq_false_iff, beq_eq_false_iff_ne] at hz2
      refine ⟨(hs.f z h0 h1 hz2.1).1, ?_⟩
      rw [htake, List.mem_append, List.mem_singleton]
      rintro (q | q)
      ·exact (hs.f z h0 h1 hz2.1).2 q
      ·exact hz2.2 q
   obtain ⟨s', hs', ek⟩ := key
   refine ⟨s', hs', fun r hr => Ev.step (fun K k => rfl) (Ev.t (by simpa using hj) (Ev.bind ek ?_))⟩
   simp only [w64_succ (i := j) (by omega)]; exact hr) () s (by simpa using hs)
 exact ⟨s', by simpa using hs', el⟩
theorem pca_l2 {c : VFunc} (h : Vd c) {k : Nat} (hk : k < c.Blocks.length) {g : RegallocAllocator} (hg : g.at_ = PTs c) {s12 : Int × (List Bool) × (List RegallocPoint)} (h12 : s12.1 = (k : Int)) {s : (List Bool) × (List RegallocPoint)} (hs : FS c k 0 [] s) : ∃ s', FS c (k + 1) 0 [] s' ∧ Ev (fun K n => regalloc_allocator_spillAcrossCalls_l2 K g s12 (bk c k) n (0, s)) s' := by
 have hlen := h.len hk
 obtain ⟨s', hs', el⟩ := ev_foldi (List.range (bk c k).Instrs.length) (fun K n j s => regalloc_allocator_spillAcrossCalls_l2 K g s12 (bk c k) n (j, s)) id (fun (_ : Unit) _ => ()) (fun j _ s => FS c k j [] s)
  (fun a s hs => Ev.step (fun K k => rfl) (Ev.f (by simp) (Ev.some _)))
  (fun j i _ s hx hj hs => by
   obtain ⟨rfl, hj⟩ := rng_get hx
   have hv := h.ia hk hj
   have hl := RS.lp (h.iv hk) (h.e hk) (RS.LO h k) (i + 1)
   have hgv := iAt_get hj
   have nxt : ∀ {s' : (List Bool) × (List RegallocPoint)} {p : List Int}, FS c k i p s' → (∀ y, y ∈ acv (iAt (bk c k) i) (lp (bk c k) (LO c k) (i + 1)) → y ∈ p) → FS c k (i + 1) [] s' := fun hs' hp => ⟨hs'.l1, hs'.l2, hs'.t, fun y h0 h1 hy => ⟨fun k' i' a1 a2 a3 a4 => by
    have := hs'.f y h0 h1 hy
    by_cases e : k' = k ∧ i' = i
    ·obtain ⟨rfl, rfl⟩ := e; exact this.2 (hp y a4)
    ·exact this.1 k' i' a1 a2 (by omega) a4, by simp⟩⟩
   have key : ∃ s', FS c k (i + 1) [] s' ∧ Ev (fun (K n : Nat) => Option.bind (idx (bk c k).Instrs (i : Int)) (fun y31 => (cnd (y31.Instr.Op != 6) (some (s.1, s.2)) (Option.bind (vcode_Reads K y31) (fun r35 => (Option.bind (idx g.at_ s12.1) (fun y38 => (Option.bind (idx y38 (w64 ((i : Int) + 1))) (fun y40 => (Option.bind (regalloc_without K y40 y31.Instr.A) (fun r42 => (Option.bind (app 8 r35 r42) (fun l44 => (Option.bind (regalloc_allocator_spillAcrossCalls_l3 K s12 ((i : Int), s) l44 l44 K (0, s.1, s.2)) (fun s47 => (some (s47.1, s47.2))))))))))))))))) s' := by
    by_cases h6 : (iAt (bk c k) i).Instr.Op = 6
    ·have l1 := hl.len h
     have l2 := (hl.mns [(iAt (bk c k) i).Instr.A]).len h
     have l3 := uc_rdl h hv
     have hmem : ∀ y, y ∈ rd (iAt (bk c k) i) ++ mns (lp (bk c k) (LO c k) (i + 1)) [(iAt (bk c k) i).Instr.A] ↔ y ∈ acv (iAt (bk c k) i) (lp (bk c k) (LO c k) (i + 1)) := fun y => by
      unfold acv
      have : ((iAt (bk c k) i).Instr.Op == 6) = true := by simpa using h6
      rw [this, if_pos rfl, mem_uni, List.mem_append]; exact or_comm
     obtain ⟨s', hs', e3⟩ := pca_l3 h hk hj (l := rd (iAt (bk c k) i) ++ mns (lp (bk c k) (LO c k) (i + 1)) [(iAt (bk c k) i).Instr.A]) (by rw [List.length_append]; omega) (fun y hy => ⟨(RS.acv hv hl).r y ((hmem y).1 hy), (hmem y).1 hy⟩) h12 (s23 := ((i : Int), s)) rfl hs
     have ei := PT_idx (c := c) (k := k) (i := i + 1) (by omega)
     rw [← w64_succ (i := i) (by omega)] at ei
     have ek := PTs_idx hk
     rw [← h12, ← hg] at ek
     exact ⟨s', nxt hs' fun y hy => (hmem y).2 hy, Ev.bindO (idx_eq hgv) (Ev.f (by simp [h6]) (Ev.bind (ev_vreads (by have := hv.n; omega)) (Ev.bindO ek (Ev.bindO ei (Ev.bind (ev_without (by omega)) (Ev.bindO (app_eq (by omega) (by omega)) (Ev.bind (Ev.loop e3) (Ev.some _))))))))⟩
    ·exact ⟨s, nxt hs fun y hy => by rw [acv_nil h6] at hy; exact hy, Ev.bindO (idx_eq hgv) (Ev.t (by simp [h6]) (Ev.some _))⟩
   obtain ⟨s', hs', ek⟩ := key
   refine ⟨s', hs', fun r hr => Ev.step (fun K k => rfl) (Ev.t (by simpa using hj) (Ev.bind ek ?_))⟩
   simp only [w64_succ (i := i) (by omega)]; exact hr) () s hs
 refine ⟨s', ⟨hs'.l1, hs'.l2, hs'.t, fun y h0 h1 hy => ⟨fun k' i' a1 a2 a3 a4 => ?_, by simp⟩⟩, el⟩
 refine (hs'.f y h0 h1 hy).1 k' i' a1 a2 ?_ a4
 simp only [List.length_range]
 by_cases e : k' = k
 ·subst e; exact .inr ⟨rfl, a2⟩
 ·exact .inl (by omega)
theorem pca_l1 {c : VFunc} (h : Vd c) {g : RegallocAllocator} (hg : g.at_ = PTs c) (hc : g.c = c) : ∃ s', FS c c.Blocks.length 0 [] s' ∧ Ev (fun K n => regalloc_allocator_spillAcrossCalls_l1 K g n (0, List.replicate c.Regs.toNat false, List.replicate c.Regs.toNat ⟨0, 0⟩)) s' := by
 have hb1 := h.h.b1
 obtain ⟨s', hs', el⟩ := ev_foldi (List.range c.Blocks.length) (fun K n j s => regalloc_allocator_spillAcrossCalls_l1 K g n (j, s)) id (fun (_ : Unit) _ => ()) (fun j _ s => FS c j 0 [] s)
  (fun a s hs => Ev.step (fun K k => rfl) (Ev.f (by simp [hc]) (Ev.some _)))
  (fun j k _ s hx hj hs => by
   obtain ⟨rfl, hj⟩ := rng_get hx
   obtain ⟨s', hs', e1⟩ := pca_l2 h hj hg (s12 := ((k : Int), s)) rfl hs
   have eb := bk_idx hj
   rw [← hc] at eb
   have hlt : (k : Int) < (g.c.Blocks.length : Int) := by rw [hc]; omega
   rw [← hc] at e1
   refine ⟨s', hs', fun r hr => Ev.step (fun K k => rfl) (Ev.t (by simpa using hlt) (Ev.bindO eb (Ev.bind (Ev.loop e1) ?_)))⟩
   simp only [w64_succ (i := k) (by omega)]; exact hr) () (List.replicate c.Regs.toNat false, List.replicate c.Regs.toNat ⟨0, 0⟩) ⟨by simp, by simp, fun y h0 h1 hy => (by
    unfold isSp at hy
    rw [List.getD_eq_getElem?_getD, List.getElem?_replicate] at hy
    split at hy <;> simp at hy), fun y h0 h1 hy => ⟨fun k' i' a1 a2 a3 => by omega, by simp⟩⟩
 exact ⟨s', by simpa using hs', el⟩
theorem ev_pspillCalls {c : VFunc} (h : Vd c) (loc : List Location) : Ev (fun K _ => regalloc_allocator_spillAcrossCalls K (pg c ⟨List.replicate c.Regs.toNat false, []⟩ loc)) (pg c (ph1 c) loc) := by
 have hrs := (ev_racross h).2
 have hlen := hrs.len h
 obtain ⟨s7, h7, e7⟩ := pca_l1 h (g := pg c ⟨List.replicate c.Regs.toNat false, []⟩ loc) rfl rfl
 obtain ⟨s', ⟨rfl, _, _⟩, el⟩ := ev_foldi (AC c) (fun K k i s => regalloc_allocator_spillAcrossCalls_l4 K s7 (AC c) k (i, s)) id (sp1 c) (fun n st s => s = pt c st loc ∧ st.sp.length = c.Regs.toNat ∧ st.ss.length ≤ n)
  (fun a s hs => Ev.step (fun K k => rfl) (Ev.f (by simp) (Ev.some _)))
  (fun i x st s hx hi hs => by
   obtain ⟨rfl, hl, hn⟩ := hs
   have hm := List.mem_of_getElem? hx
   have hxr := hrs.r x hm
   have hseen : isSp s7.1 x = true := by
    cases hb : isSp s7.1 x with
    | true => rfl
    | false =>
     obtain ⟨k, hk, i, hi, hmm⟩ := mem_AC.1 hm
     exact absurd hmm ((h7.f x hxr.1 hxr.2 hb).1 k i hk hi (.inl hk))
   obtain ⟨k, j, hf, hp⟩ := h7.t x hxr.1 hxr.2 hseen
   have ep := ptL_idx (l := s7.2) hxr.1 (by have := h7.l2; omega)
   rw [hp] at ep
   have e2 := pspill_eq (c := c) (loc := loc) (st := st) (x := ⟨x, 1, (k : Int), (j : Int), []⟩) hxr.1 (by show x < _; omega) (by omega)
   refine ⟨pt c (sp1 c st x) loc, ⟨rfl, by simp [sp1, spl, hl], by simp [sp1, spl]; omega⟩, fun r hr => Ev.step (fun K k => rfl) (Ev.t (by simpa using hi) (Ev.bindO (idx_eq hx) (Ev.bindO ep (Ev.bindO ep (Ev.bindO e2 ?_)))))⟩
   have e3 : sp1 c st x = spl st ⟨x, 1, (k : Int), (j : Int), []⟩ := by unfold sp1; rw [fcl_eq hf]
   rw [e3] at hr
   rw [w64_succ (i := i) (by omega)]
   exact hr) ⟨List.replicate c.Regs.toNat false, []⟩ (pt c ⟨List.replicate c.Regs.toNat false, []⟩ loc) ⟨rfl, by simp, by simp⟩
 unfold regalloc_allocator_spillAcrossCalls
 exact Ev.bindO (mkR h (by omega) _) (Ev.bindO (mkR h (by omega) _) (Ev.bind (Ev.loop e7) (Ev.bind (ev_pacross h) (Ev.bind (Ev.loop el) (Ev.some _)))))
theorem ppr_l4 {c : VFunc} (h : Vd c) {hh : List Int} (hr : RS c hh) {y : Int} {t : List Int} (e : hh = y :: t) {s : (List Int) × PS8} (hs1 : s.1 = hh) : Ev (fun K k => regalloc_allocator_reducePressure_l4 K (UC c) s k (y, 0)) (bst (UC c) hh) := by
 have hlen := hr.len h
 have key : ∀ n j b, j + n = hh.length → 0 ≤ b → b < c.Regs → Ev (fun K k => regalloc_allocator_reducePressure_l4 K (UC c) s k (b, (j : Int))) ((hh.drop j).foldl (fun b n => if wt (UC c) n ≤ wt (UC c) b then n else b) b) := by
  intro n
  induction n with
  | zero =>
   intro j b hj hb0 hb1
   have : j = hh.length := by omega
   subst this
   refine Ev.step (fun K k => rfl) (Ev.f (by rw [hs1]; simp) ((Ev.some _).cast ?_))
   rw [List.drop_length]; rfl
  | succ n ih =>
   intro j b hj hb0 hb1
   have hlt : j < hh.length := by omega
   have hg : idx s.1 (j : Int) = some hh[j] := by rw [hs1]; exact idx_get hlt
   have hxr := hr.r hh[j] (List.getElem_mem hlt)
   rw [drop_get hlt, List.foldl_cons]
   have w1 := wt_idx h hxr.1 hxr.2
   have w2 := wt_idx h hb0 hb1
   refine Ev.step (fun K k => rfl) (Ev.t (by rw [hs1]; simpa using hlt) (Ev.bind (x := if wt (UC c) hh[j] ≤ wt (UC c) b then hh[j] else b) (Ev.bindO hg (Ev.bindO w1 (Ev.bindO w2 ?_))) ?_))
   ·refine Ev.cnd (fun hc => (Ev.some _).cast ?_) (fun hc => (Ev.some _).cast ?_)
    ·rw [if_pos (of_decide_eq_true hc)]
    ·rw [if_neg (of_decide_eq_false hc)]
   ·simp only [w64_succ (i := j) (by omega)]
    refine ih (j + 1) _ (by omega) ?_ ?_
    ·split; exact hxr.1; exact hb0
    ·split; exact hxr.2; exact hb1
 have hy := hr.r y (by rw [e]; simp)
 have := key hh.length 0 y (by omega) hy.1 hy.2
 refine Ev.cast this ?_
 unfold bst
 rw [e]; rfl
theorem ppr_l3 {c : VFunc} (h : Vd c) {k i : Nat} (hk : k < c.Blocks.length) (hi : i ≤ (bk c k).Instrs.length) {loc : List Location} {s8 s19 : Int × PS8} (h8 : s8.1 = (k : Int)) (h19 : s19.1 = (i : Int)) : ∀ (n : Nat) (st : AState), SI c st → (n = (unsp st.sp (lp (bk c k) (LO c k) i)).length - 5) →
  Ev (fun K m => regalloc_allocator_reducePressure_l3 K (UC c) s8 s19 m (unsp st.sp (lp (bk c k) (LO c k) i), pt c st loc)) (pt c (prs (UC c) k i n (unsp st.sp (lp (bk c k) (LO c k) i)) st) loc) := by
 have hl := RS.lp (h.iv hk) (h.e hk) (RS.LO h k) i
 intro n
 induction n with
 | zero =>
  intro st hs hn
  exact Ev.step (fun K k => rfl) (Ev.f (by simp; omega) (Ev.some _))
 | succ n ih =>
  intro st hs hn
  have hsl := hs.l
  have hss := hs.len h
  have hr1 := h.h.r1
  have hu := hl.unsp st.sp
  have hulen := hu.len h
  have hbr0 := fun x hx => hu.r x hx
  have e8 := fun (x : Int) (h0 : 0 ≤ x) (h1 : x < c.Regs) => unsp_unsp hsl hl h0 h1
  generalize hh : unsp st.sp (lp (bk c k) (LO c k) i) = H at hn hu hulen e8
  obtain ⟨y, t, e⟩ : ∃ y t, H = y :: t := by
   cases H with
   | nil => simp at hn
   | cons y t => exact ⟨y, t, rfl⟩
  have hb : bst (UC c) H ∈ H := bst_mem (by rw [e]; simp)
  have hbr := hu.r _ hb
  have hbu : isSp st.sp (bst (UC c) H) = false := (mem_unsp.1 (hh.symm ▸ hb : bst (UC c) H ∈ unsp st.sp (lp (bk c k) (LO c k) i))).2
  have hmlen := mns_one_len hu.s hb
  have e1 : idx H 0 = some y := by rw [e]; exact idx_eq (i := 0) rfl
  have e3 := pspill_eq (c := c) (loc := loc) (st := st) (x := ⟨bst (UC c) H, 2, (k : Int), (i : Int), mns H [bst (UC c) H]⟩) hbr.1 (by show bst (UC c) H < _; omega) (by omega)
  have hs' := hs.spl (x := ⟨bst (UC c) H, 2, (k : Int), (i : Int), mns H [bst (UC c) H]⟩) hbr.1 hbr.2 hbu
  have e4 := unsp_set hsl hl hbr.1 hbr.2
  rw [hh] at e4
  have e7 := ev_punsp h (a := pg c (spl st ⟨bst (UC c) H, 2, (k : Int), (i : Int), mns H [bst (UC c) H]⟩) loc) hs'.l hu
  have e9 : unsp (pg c (spl st ⟨bst (UC c) H, 2, (k : Int), (i : Int), mns H [bst (UC c) H]⟩) loc).spilled H = mns H [bst (UC c) H] := e8 _ hbr.1 hbr.2
  rw [e9] at e7
  refine Ev.step (fun K k => rfl) (Ev.t (by simp; omega) (Ev.bindO e1 (Ev.bind (Ev.loop (ppr_l4 h hu e rfl)) (Ev.bind (ev_without (l := H) (by omega)) (Ev.bindO (x := pg c (spl st ⟨bst (UC c) H, 2, (k : Int), (i : Int), mns H [bst (UC c) H]⟩) loc) ?_ (Ev.bind e7 ?_))))))
  ·rw [h8, h19]; exact e3
  ·have := ih (spl st ⟨bst (UC c) H, 2, (k : Int), (i : Int), mns H [bst (UC c) H]⟩) hs' (by
    show n = (unsp (st.sp.set (bst (UC c) H).toNat true) _).length - 5
    rw [e4]; omega)
   have e6 : unsp (spl st ⟨bst (UC c) H, 2, (k : Int), (i : Int), mns H [bst (UC c) H]⟩).sp (lp (bk c k) (LO c k) i) = mns H [bst (UC c) H] := e4
   rw [e6] at this
   exact this
theorem ppr_l2 {c : VFunc} (h : Vd c) {k : Nat} (hk : k < c.Blocks.length) {loc : List Location} {s8 : Int × PS8} (h8 : s8.1 = (k : Int)) {st : AState} (hs : SI c st) : Ev (fun K m => regalloc_allocator_reducePressure_l2 K (UC c) s8 (bk c k) m (0, pt c st loc)) (pt c (ph2B c (UC c) st k) loc) ∧ SI c (ph2B c (UC c) st k) := by
 have hlen := h.len hk
 obtain ⟨s', ⟨rfl, hs'⟩, el⟩ := ev_foldi (List.range ((bk c k).Instrs.length + 1)) (fun K m i s => regalloc_allocator_reducePressure_l2 K (UC c) s8 (bk c k) m (i, s)) id (ph2P c (UC c) k) (fun n st s => s = pt c st loc ∧ SI c st)
  (fun a s hs => Ev.step (fun K k => rfl) (Ev.f (by simp; omega) (Ev.some _)))
  (fun j i st s hx hj hs => by
   obtain ⟨rfl, hj⟩ := rng_get hx
   obtain ⟨rfl, hs⟩ := hs
   have hl := RS.lp (h.iv hk) (h.e hk) (RS.LO h k) i
   have ek := PTs_idx hk
   rw [← h8] at ek
   refine ⟨pt c (ph2P c (UC c) k st i) loc, ⟨rfl, prs_si h hl hs (by omega)⟩, fun r hr => Ev.step (fun K k => rfl) (Ev.t (by simp; omega) (Ev.bindO ek (Ev.bindO (PT_idx (by omega)) (Ev.bind (ev_punsp h (a := pg c st loc) hs.l hl) (Ev.bind (Ev.loop (ppr_l3 h hk (by omega) h8 (s19 := ((i : Int), pt c st loc)) rfl _ st hs rfl)) ?_)))))⟩
   rw [w64_succ (i := i) (by omega)]
   exact hr) st (pt c st loc) ⟨rfl, hs⟩
 exact ⟨el, hs'⟩
theorem ev_preduce {c : VFunc} (h : Vd c) {st : AState} {loc : List Location} (hs : SI c st) : Ev (fun K _ => regalloc_allocator_reducePressure K (pg c st loc)) (pg c (ph2 c st) loc) := by
 have hb1 := h.h.b1
 obtain ⟨s', ⟨rfl, hs'⟩, el⟩ := ev_foldi (List.range c.Blocks.length) (fun K m i s => regalloc_allocator_reducePressure_l1 K (pg c st loc) (UC c) m (i, s)) id (ph2B c (UC c)) (fun n st s => s = pt c st loc ∧ SI c st)
  (fun a s hs => Ev.step (fun K k => rfl) (Ev.f (by simp [pg]) (Ev.some _)))
  (fun j i st s hx hj hs => by
   obtain ⟨rfl, hj⟩ := rng_get hx
   obtain ⟨rfl, hs⟩ := hs
   obtain ⟨e1, hs'⟩ := ppr_l2 h hj (loc := loc) (s8 := ((i : Int), pt c st loc)) rfl hs
   refine ⟨pt c (ph2B c (UC c) st i) loc, ⟨rfl, hs'⟩, fun r hr => Ev.step (fun K k => rfl) (Ev.t (by simp [pg]; omega) (Ev.bindO (bk_idx hj) (Ev.bind (Ev.loop e1) ?_)))⟩
   rw [w64_succ (i := i) (by omega)]
   exact hr) st (pt c st loc) ⟨rfl, hs⟩
 unfold regalloc_allocator_reducePressure
 exact Ev.bind (ev_puc h) (Ev.bind (Ev.loop el) (Ev.some _))
end Go.Proofs.YtocfnpnnbmicmaaDoor.Tc
end
section
set_option linter.unusedVariables false
set_option linter.unusedSimpArgs false
set_option maxRecDepth 20000
namespace Go.Proofs.YtocfnpnnbmicmaaDoor.Tc
open Go
theorem color_l2 (K j : Nat) : regalloc_allocator_color_l2 K (j + 6) (0, List.replicate 5 0) = some (List.replicate 5 (-1)) := by kernel_rfl
theorem ev_color_l2 : Ev (fun K k => regalloc_allocator_color_l2 K k (0, List.replicate 5 0)) (List.replicate 5 (-1)) := ⟨6, fun K k hK hk => by
 obtain ⟨j, rfl⟩ : ∃ j, k = j + 6 := ⟨k - 6, by omega⟩
 exact color_l2 K j⟩
theorem owns_nil (sp : List Bool) (loc : List Location) (r : Nat) : owns [] sp loc r = List.replicate 5 (-1) := rfl
theorem own_snoc {p : List Int} (hp : ∀ y, y ∈ p → 0 ≤ y) {sp : List Bool} {loc : List Location} {r : Nat} {m y : Int} : own (p ++ [y]) sp loc r m = if own p sp loc r m < 0 ∧ owP sp loc r m y = true then y else own p sp loc r m := by
 unfold own
 rw [List.find?_append]
 cases hf : p.find? (owP sp loc r m) with
 | some z =>
  have := hp z (List.mem_of_find?_eq_some hf)
  rw [if_neg (by simp; omega)]; rfl
 | none =>
  cases ho : owP sp loc r m y with
  | true => simp [List.find?_cons, ho]
  | false => simp [List.find?_cons, ho]
theorem owns_idx {l : List Int} {sp : List Bool} {loc : List Location} {r m : Nat} (h : m < 5) : idx (owns l sp loc r) (m : Int) = some (own l sp loc r m) := idx_eq (owns_get h)
theorem pco_l3 {c : VFunc} (h : Vd c) {r : Nat} (hr : r < c.Regs.toNat) {q : AState × List Location} (h3 : C3 c r q) : Ev (fun K k => regalloc_allocator_color_l3 K ((r : Int), pt c q.1 q.2) (IF c r) k (0, List.replicate 5 (-1))) (owns (IF c r) q.1.sp q.2 r) := by
 have g := gr_IF h
 have hlen := (g.s r).len h
 have hl := h3.l
 have hsl := h3.s.l
 obtain ⟨s', rfl, el⟩ := ev_foldi (IF c r) (fun K k i s => regalloc_allocator_color_l3 K ((r : Int), pt c q.1 q.2) (IF c r) k (i, s)) id (fun (_ : Unit) _ => ()) (fun j _ s => s = owns ((IF c r).take j) q.1.sp q.2 r)
  (fun a s hs => Ev.step (fun K k => rfl) (Ev.f (by simp) (Ev.some _)))
  (fun j y _ s hy hj hs => by
   subst hs
   have hyr := (g.s r).r y (List.mem_of_getElem? hy)
   have htake : (IF c r).take (j + 1) = (IF c r).take j ++ [y] := by rw [List.take_add_one, hy]; rfl
   have hpos : ∀ z, z ∈ (IF c r).take j → 0 ≤ z := fun z hz => ((g.s r).r z (List.mem_of_mem_take hz)).1
   have e1 := isSp_idx (sp := q.1.sp) hyr.1 (by omega)
   have e2 := locL_idx (loc := q.2) hyr.1 (by omega)
   refine ⟨owns ((IF c r).take (j + 1)) q.1.sp q.2 r, rfl, fun r' hr' => Ev.step (fun K k => rfl) (Ev.t (by simpa using hj) (Ev.bind (x := owns ((IF c r).take (j + 1)) q.1.sp q.2 r) (Ev.bindO (idx_eq hy) (Ev.bind (x := (decide (y < (r : Int)) && !(isSp q.1.sp y))) ?_ ?_)) ?_))⟩
   ·cases hc : decide (y < (r : Int)) with
    | true => exact Ev.t rfl (Ev.bindO e1 (Ev.some _))
    | false => exact Ev.f rfl (Ev.some _)
   ·cases hb : (decide (y < (r : Int)) && !(isSp q.1.sp y)) with
    | false =>
     refine Ev.bind (x := false) (Ev.f rfl (Ev.some _)) (Ev.f rfl ((Ev.some _).cast ?_))
     refine List.map_congr_left fun m hm => ?_
     rw [htake, own_snoc hpos, if_neg]
     rintro ⟨_, q2⟩
     unfold owP at q2
     rw [hb] at q2; cases q2
    | true =>
     have hb2 := hb
     simp only [Bool.and_eq_true, decide_eq_true_eq, Bool.not_eq_true'] at hb2
     obtain ⟨m, hm, em⟩ := h3.k y.toNat (by omega) (by rw [show ((y.toNat : Nat) : Int) = y by omega]; exact hb2.2)
     rw [show ((y.toNat : Nat) : Int) = y by omega] at em
     have ei : (locL q.2 y).Index = (m : Int) := by rw [em]
     have e3 := owns_idx (l := (IF c r).take j) (sp := q.1.sp) (loc := q.2) (r := r) hm
     rw [← ei] at e3
     have hg : (decide (0 ≤ (locL q.2 y).Index) && decide ((locL q.2 y).Index < 5)) = true := by rw [ei]; simp; omega
     refine Ev.bind (x := decide (own ((IF c r).take j) q.1.sp q.2 r (locL q.2 y).Index < 0)) (Ev.t rfl (Ev.bindO e2 (Ev.bindO e3 (Ev.guard hg (Ev.some _))))) (Ev.cnd (fun hc => Ev.bindO e2 (Ev.bindO e3 (Ev.guard hg ((Ev.some _).cast ?_)))) (fun hc => (Ev.some _).cast ?_))
     ·have hc := of_decide_eq_true hc
      rw [ei] at hc ⊢
      refine List.ext_getElem? fun i => ?_
      rcases Nat.lt_or_ge i 5 with q5 | q5
      ·rw [owns_get q5, htake, own_snoc hpos]
       by_cases e : i = m
       ·subst e
        rw [Int.toNat_natCast, List.getElem?_set_self (by rw [owns_len]; exact q5), if_pos ⟨hc, by unfold owP; rw [hb, ei]; simp⟩]
       ·rw [Int.toNat_natCast, List.getElem?_set_ne (Ne.symm e), owns_get q5, if_neg]
        rintro ⟨_, q2⟩
        unfold owP at q2
        rw [hb, ei] at q2
        simp at q2; omega
      ·rw [List.getElem?_eq_none (by rw [List.length_set, owns_len]; exact q5), List.getElem?_eq_none (by rw [owns_len]; exact q5)]
     ·have hc := of_decide_eq_false hc
      rw [ei] at hc
      refine List.map_congr_left fun i hi => ?_
      rw [htake, own_snoc hpos]
      by_cases e : i = m
      ·subst e; rw [if_neg (fun z => hc z.1)]
      ·rw [if_neg]
       rintro ⟨_, q2⟩
       unfold owP at q2
       rw [hb, ei] at q2
       simp at q2; omega
   ·simp only [w64_succ (i := j) (by omega)]; exact hr') () (List.replicate 5 (-1)) (by rw [List.take_zero, owns_nil])
 rw [List.take_length] at el
 exact el
theorem pco_l4 {l : List Int} {sp : List Bool} {loc : List Location} {r : Nat} : Ev (fun K k => regalloc_allocator_color_l4 K (owns l sp loc r) k 0) (((frM l sp loc r).getD 5 : Nat) : Int) := by
 have key : ∀ n m : Nat, m + n = 5 → (∀ j : Nat, j < m → 0 ≤ own l sp loc r j) → Ev (fun K k => regalloc_allocator_color_l4 K (owns l sp loc r) k (m : Int)) (((frM l sp loc r).getD 5 : Nat) : Int) := by
  intro n
  induction n with
  | zero =>
   intro m hm hj
   have : m = 5 := by omega
   subst this
   refine Ev.step (fun K k => rfl) (Ev.bind (x := false) (Ev.f rfl (Ev.some _)) (Ev.f rfl ((Ev.some _).cast ?_)))
   rw [frM_none hj]; rfl
  | succ n ih =>
   intro m hm hj
   have hg : (decide (0 ≤ (m : Int)) && decide ((m : Int) < 5)) = true := by simp; omega
   refine Ev.step (fun K k => rfl) (Ev.bind (x := decide (own l sp loc r m ≥ 0)) (Ev.t (by simp; omega) (Ev.bindO (owns_idx (by omega)) (Ev.guard hg (Ev.some _)))) (Ev.cnd (fun hc => ?_) (fun hc => (Ev.some _).cast ?_)))
   ·rw [w64_succ (i := m) (by omega)]
    refine ih (m + 1) (by omega) fun j hj2 => ?_
    by_cases q : j = m
    ·subst q; have := of_decide_eq_true hc; omega
    ·exact hj j (by omega)
   ·rw [frM_some (by omega) hj (by have := of_decide_eq_false hc; omega)]; rfl
 exact key 5 0 (by omega) (fun j hj => by omega)
theorem ev_color {c : VFunc} (h : Vd c) : Ev (fun K _ => regalloc_allocator_color K (pg c (ph2 c (ph1 c)) (loc0 c))) (pg c (fin3 c).1 (fin3 c).2) := by
 have hr1 := h.h.r1
 have hr0 := h.h.r0
 have hL : (pg c (ph2 c (ph1 c)) (loc0 c)).a.Locations.length = c.Regs.toNat := by simp [pg, loc0]
 obtain ⟨s', ⟨rfl, _⟩, el⟩ := ev_foldi (List.range c.Regs.toNat) (fun K k i s => regalloc_allocator_color_l1 K (pg c (ph2 c (ph1 c)) (loc0 c)) (IFs c) k (i, s)) id (col c) (fun r q s => s = pt c q.1 q.2 ∧ C3 c r q)
  (fun a s hs => Ev.step (fun K k => rfl) (Ev.f (by simp [hL]) (Ev.some _)))
  (fun j r q s hx hj hs => by
   obtain ⟨rfl, hj⟩ := rng_get hx
   obtain ⟨rfl, h3⟩ := hs
   have hl := h3.l
   have hsl := h3.s.l
   have hss := h3.s.len h
   have i1 := isSp_idx (sp := q.1.sp) (r := (r : Int)) (by omega) (by omega)
   have i3 := locL_idx (loc := q.2) (r := (r : Int)) (by omega) (by omega)
   refine ⟨pt c (col c q r).1 (col c q r).2, ⟨rfl, h3.step h hj⟩, fun r' hr' => Ev.step (fun K k => rfl) (Ev.t (by simp [hL]; omega) (Ev.bind (x := pt c (col c q r).1 (col c q r).2) (Ev.bindO i1 ?_) ?_))⟩
   ·unfold col
    cases hsp : isSp q.1.sp (r : Int) with
    | true => rw [if_pos rfl]; exact Ev.t rfl (Ev.some _)
    | false =>
     rw [if_neg (by simp)]
     have e4 := pco_l4 (l := IF c r) (sp := q.1.sp) (loc := q.2) (r := r)
     refine Ev.f rfl (Ev.bind (Ev.loop ev_color_l2) (Ev.bindO (idx_eq (IFs_get hj)) (Ev.bind (Ev.loop (pco_l3 h hj h3)) (Ev.bind (Ev.loop e4) ?_))))
     cases hf : frM (IF c r) q.1.sp q.2 r with
     | some m =>
      have hm : m < 5 := by
       unfold frM at hf
       exact List.mem_range.1 (List.mem_of_find?_eq_some hf)
      refine Ev.t (by show decide (((m : Nat) : Int) < 5) = true; simp; omega) (Ev.bindO i3 ((Ev.some _).cast ?_))
      show (_, _, _, _, _, _, q.2.set (r : Int).toNat _, _) = _
      rw [Int.toNat_natCast]; rfl
     | none =>
      have e5 := pspill_eq (c := c) (loc := q.2) (st := q.1) (x := ⟨(r : Int), 3, 0, 0, owns (IF c r) q.1.sp q.2 r⟩) (show (0 : Int) ≤ r by omega) (show (r : Int) < _ by omega) (by omega)
      exact Ev.f rfl (Ev.guard (by rw [owns_len]; rfl) (Ev.bindO (app_nil (by rw [owns_len]; omega) (by rw [owns_len]; omega)) (Ev.bindO e5 (Ev.some _))))
   ·rw [w64_succ (i := r) (by omega)]
    exact hr') (ph2 c (ph1 c), loc0 c) (pt c (ph2 c (ph1 c)) (loc0 c)) ⟨rfl, c3_start h⟩
 unfold regalloc_allocator_color
 exact Ev.bind (ev_pint h) (Ev.bind (Ev.loop el) (Ev.some _))
theorem pal_l1 {c : VFunc} (h : Vd c) : Ev (fun K k => regalloc_Allocate_l1 K (pg c (fin3 c).1 (fin3 c).2) k (0, c.Params, (fin3 c).2)) ((fin4 c).2, (fin4 c).1) := by
 have hr1 := h.h.r1
 have hr0 := h.h.r0
 have hp0 := h.h.p0
 have hp1 := h.h.p1
 have h3 := c3_fin h
 have hsl := h3.s.l
 have hL : (pg c (fin3 c).1 (fin3 c).2).a.Locations.length = c.Regs.toNat := h3.l
 obtain ⟨s', ⟨rfl, _⟩, el⟩ := ev_foldi (List.range c.Regs.toNat) (fun K k i s => regalloc_Allocate_l1 K (pg c (fin3 c).1 (fin3 c).2) k (i, s)) id (slo (fin3 c).1.sp) (fun r q s => s = (q.2, q.1) ∧ C4 c (fin3 c).1.sp (fin3 c).2 r q)
  (fun a s hs => Ev.step (fun K k => rfl) (Ev.f (by simp [hL]) (Ev.some _)))
  (fun j r q s hx hj hs' => by
   obtain ⟨rfl, hj⟩ := rng_get hx
   obtain ⟨rfl, h4⟩ := hs'
   have hnext := h4.step hj
   have hl := h4.l
   have hb := h4.b
   have i1 := isSp_idx (sp := (fin3 c).1.sp) (r := (r : Int)) (by omega) (by omega)
   have i3 := locL_idx (loc := q.1) (r := (r : Int)) (by omega) (by omega)
   have hw : w64 (q.2 + 1) = q.2 + 1 := w64_id (by omega) (by omega)
   refine ⟨((slo (fin3 c).1.sp q r).2, (slo (fin3 c).1.sp q r).1), ⟨rfl, hnext⟩, fun r' hr' => Ev.step (fun K k => rfl) (Ev.t (by simp [hL]; omega) (Ev.bind (x := ((slo (fin3 c).1.sp q r).2, (slo (fin3 c).1.sp q r).1)) (Ev.bindO i1 ?_) ?_))⟩
   ·unfold slo
    cases isSp (fin3 c).1.sp (r : Int) with
    | true => exact Ev.t rfl (Ev.bindO i3 ((Ev.some _).cast (by rw [hw, Int.toNat_natCast]; rfl)))
    | false => exact Ev.f rfl (Ev.some _)
   ·rw [w64_succ (i := r) (by omega)]
    exact hr') ((fin3 c).2, c.Params) (c.Params, (fin3 c).2) ⟨rfl, ⟨h3.l, fun y hy => rfl, fun y hy => by omega, fun y z hy => by omega, by show _ ≤ c.Params ∧ c.Params ≤ _; omega⟩⟩
 exact el
theorem ev_palloc {c : VFunc} (h : Vd c) : Ev (fun K _ => regalloc_Allocate K c) (AL c) := by
 have hb0 := h.h.b0
 have e00 := PT_idx (c := c) (k := 0) (i := 0) (Nat.zero_le _)
 rw [lp_zero, ← LI_eq h (by omega)] at e00
 unfold regalloc_Allocate
 refine Ev.bind (ev_vvalid h.sm) (Ev.f (by rw [h.v]; rfl) (Ev.bind (ev_points h) (Ev.bindO (mkR h (by omega) _) (Ev.bindO (PTs_idx (k := 0) (by omega)) (Ev.bindO e00 ?_)))))
 refine Ev.cnd (fun hc => (Ev.some _).cast ?_) (fun hc => ?_)
 ·unfold AL; rw [if_pos (by have := of_decide_eq_true hc; omega)]
 ·have hn : ¬ (LI c 0).length > 0 := by have := of_decide_eq_false hc; omega
  refine Ev.bindO (mkR h (by omega) _) (Ev.bind (ev_pspillCalls h (loc0 c)) (Ev.bind (ev_preduce h (ph1_ok h).1) (Ev.bind (ev_color h) (Ev.bind (Ev.loop (pal_l1 h)) ?_))))
  unfold AL
  rw [if_neg hn]
  refine Ev.cnd (fun hc => (Ev.some _).cast ?_) (fun hc => (Ev.some _).cast ?_)
  ·rw [if_pos (of_decide_eq_true hc)]
  ·rw [if_neg (of_decide_eq_false hc)]; rfl
theorem ev_palloc0 {c : VFunc} (h : SmF c) (hv : validB c = false) : Ev (fun K _ => regalloc_Allocate K c) (⟨[], [], 0⟩, 1) := by
 unfold regalloc_Allocate
 exact Ev.bind (ev_vvalid h) (Ev.t (by rw [hv]; rfl) (Ev.some _))
end Go.Proofs.YtocfnpnnbmicmaaDoor.Tc
end
section
set_option linter.unusedVariables false
set_option linter.unusedSimpArgs false
namespace Go.Proofs.YtocfnpnnbmicmaaDoor.Tc
open Go
theorem al_slots {c : VFunc} (h : Vd c) : c.Params ≤ (fin4 c).2 ∧ (fin4 c).2 ≤ c.Params + c.Regs := (alc h).s
theorem al_ok {c : VFunc} (h : Vd c) (h0 : LI c 0 = []) (hs : c.Params + c.Regs ≤ 3000) : AL c = (ALa c, 0) := by
 have := al_slots h
 unfold AL
 rw [h0, if_neg (by simp), if_neg (by omega)]
theorem VF.al {p : Int} {c : VFunc} (h : VF p c) : AL c = (ALa c, 0) := al_ok h.vd h.li0 (by have := h.hp; have := h.hr; have := h.p2; omega)
end Go.Proofs.YtocfnpnnbmicmaaDoor.Tc
end
section
set_option linter.unusedVariables false
set_option linter.unusedSimpArgs false
namespace Go.Proofs.YtocfnpnnbmicmaaDoor.Tc
open Go
structure SmA (a : Allocation) : Prop where
 s : a.Spills.length ≤ 17592186044000
 o : ∀ s, s ∈ a.Spills → s.Others.length ≤ 17592186044000
abbrev Memo := List (Int × List (List Int))
def MP (c : VFunc) (m : Memo) : Prop := ∀ k y, mget m k = some y → y = LPs c k.toNat
theorem mget_put {m : Memo} {k k' : Int} {y : List (List Int)} (h : mget m k = none) : mget (mput m k y) k' = if k' = k then some y else mget m k' := by
 have ha : m.any (fun p => p.1 == k) = false := by
  rw [Bool.eq_false_iff]
  intro q
  obtain ⟨p, hp, hk⟩ := List.any_eq_true.1 q
  unfold mget at h
  rw [Option.map_eq_none_iff, List.find?_eq_none] at h
  exact h p hp hk
 unfold mput
 rw [ha, if_neg (by simp)]
 unfold mget at h ⊢
 rw [List.find?_append]
 by_cases e : k' = k
 ·subst e
  rw [if_pos rfl]
  rw [Option.map_eq_none_iff] at h
  rw [h]; simp
 ·rw [if_neg e]
  have : (k == k') = false := by simpa using Ne.symm e
  cases m.find? (fun p => p.1 == k') <;> simp [List.find?_cons, this]
theorem MP.put {c : VFunc} {m : Memo} (h : MP c m) {k : Nat} (hk : mget m (k : Int) = none) : MP c (mput m (k : Int) (LPs c k)) := fun k' y hy => by
 rw [mget_put hk] at hy
 by_cases e : k' = (k : Int)
 ·subst e; rw [if_pos rfl] at hy; exact (Option.some.inj hy).symm
 ·rw [if_neg e] at hy; exact h k' y hy
theorem lp_sm {c : VFunc} (h : Vd c) {k : Nat} (hk : k < c.Blocks.length) (i : Nat) : RS c (lp (bk c k) (LO c k) i) ∧ Sm (lp (bk c k) (LO c k) i) := by
 have hl := RS.lp (h.iv hk) (h.e hk) (RS.LO h k) i
 have := hl.len h
 exact ⟨hl, by unfold Sm; omega⟩
structure HS (c : VFunc) (e : List Int) (sp : List Bool) : Prop where
 l : sp.length = c.Regs.toNat
 b : ∀ y : Int, 0 ≤ y → y < c.Regs → isSp sp y = e.contains y
theorem HS.next {c : VFunc} {e : List Int} {sp : List Bool} (h : HS c e sp) {r : Int} (h0 : 0 ≤ r) (h1 : r < c.Regs) : HS c (e ++ [r]) (sp.set r.toNat true) := ⟨by simp [h.l], fun y hy0 hy1 => by
 have hl := h.l
 rw [isSp_set h0 (by omega) hy0, h.b y hy0 hy1, Bool.eq_iff_iff]
 simp⟩
end Go.Proofs.YtocfnpnnbmicmaaDoor.Tc
end
section
set_option linter.unusedVariables false
set_option linter.unusedSimpArgs false
namespace Go.Proofs.YtocfnpnnbmicmaaDoor.Tc
open Go
theorem jst_len {c : VFunc} (h : Vd c) {sp : List Bool} {loc : List Location} {b : Nat} {pre : List Int} {x : Spill} (hj : Jst c sp loc b pre x) : x.Others.length ≤ 3000 := by
 cases hj with
 | call k i hk hi r eb ei o m => rw [o]; simp
 | pres k i hk hi r eb ei m u s n l =>
  have hl := (lp_sm h hk i).1
  exact RS.len h ⟨s, fun y hy => hl.r y (u y hy).1⟩
 | colr r eb ei l u => omega
theorem alc_sm {c : VFunc} (h : Vd c) {a : Allocation} (ha : Alc c a) : SmA a := by
 have hr1 := h.h.r1
 refine ⟨?_, fun s hs => ?_⟩
 ·have := nodup_len (n := c.Regs.toNat) ha.n fun x hx => by
   obtain ⟨y, hy, rfl⟩ := List.mem_map.1 hx
   have := ha.g y hy; omega
  rw [List.length_map] at this; omega
 ·obtain ⟨pre, post, e⟩ := List.append_of_mem hs
  have := jst_len h (ha.j pre s post e)
  omega
end Go.Proofs.YtocfnpnnbmicmaaDoor.Tc
end
section
set_option linter.unusedVariables false
set_option linter.unusedSimpArgs false
namespace Go.Proofs.YtocfnpnnbmicmaaDoor.Tc
open Go
def OkE {α : Type} (f : Nat → Nat → Option α) (P : α → Prop) : Prop := ∃ x, Ev f x ∧ P x
section
variable {α β S R : Type}
theorem OkE.ev {f : Nat → Nat → Option α} {P : α → Prop} {x : α} (h : Ev f x) (hp : P x) : OkE f P := ⟨x, h, hp⟩
theorem OkE.some {P : α → Prop} (x : α) (hp : P x) : OkE (fun _ _ => some x) P := ⟨x, Ev.some x, hp⟩
theorem OkE.of {P : α → Prop} {o : Option α} {x : α} (h : o = Option.some x) (hp : P x) : OkE (fun _ _ => o) P := ⟨x, Ev.of h, hp⟩
theorem OkE.bind {f : Nat → Nat → Option α} {g : Nat → Nat → α → Option β} {P : α → Prop} {Q : β → Prop} (h : OkE f P) (k : ∀ x, P x → OkE (fun K k => g K k x) Q) : OkE (fun K k => (f K k).bind (g K k)) Q := by
 obtain ⟨x, h1, h2⟩ := h
 obtain ⟨y, h3, h4⟩ := k x h2
 exact ⟨y, Ev.bind h1 h3, h4⟩
theorem OkE.bindO {o : Option α} {g : Nat → Nat → α → Option β} {x : α} {Q : β → Prop} (h : o = Option.some x) (k : OkE (fun K k => g K k x) Q) : OkE (fun K k => o.bind (g K k)) Q := by
 obtain ⟨y, h3, h4⟩ := k
 exact ⟨y, Ev.bindO h h3, h4⟩
theorem OkE.cnd {b : Bool} {f g : Nat → Nat → Option α} {Q : α → Prop} (h1 : b = true → OkE f Q) (h2 : b = false → OkE g Q) : OkE (fun K k => Tc.cnd b (f K k) (g K k)) Q := by
 cases b with
 | true => exact h1 rfl
 | false => exact h2 rfl
theorem OkE.mono {f : Nat → Nat → Option α} {P Q : α → Prop} (h : OkE f P) (k : ∀ x, P x → Q x) : OkE f Q := by
 obtain ⟨x, h1, h2⟩ := h
 exact ⟨x, h1, k x h2⟩
theorem OkE.loop {F : Nat → Nat → S → Option R} {s : S} {P : R → Prop} (h : OkE (fun K k => F K k s) P) : OkE (fun K _ => F K K s) P := by
 obtain ⟨x, h1, h2⟩ := h
 exact ⟨x, Ev.loop h1, h2⟩
theorem OkE.step {F : Nat → Nat → S → Option R} {s : S} {B : Nat → Nat → Option R} {P : R → Prop} (he : ∀ K k, F K (k + 1) s = B K k) (h : OkE B P) : OkE (fun K k => F K k s) P := by
 obtain ⟨x, h1, h2⟩ := h
 exact ⟨x, Ev.step he h1, h2⟩
theorem OkE.sq {f : Nat → Nat → Option (S ⊕ R)} {g : Nat → Nat → S → Option R} {P : S → Prop} {Q : R → Prop} (h : OkE f (fun x => match x with | .inl s => P s | .inr r => Q r)) (k : ∀ s, P s → OkE (fun K k => g K k s) Q) : OkE (fun K k => Tc.sq (f K k) (g K k)) Q := by
 obtain ⟨x, h1, h2⟩ := h
 cases x with
 | inl s => obtain ⟨y, h3, h4⟩ := k s h2; exact ⟨y, Ev.sql h1 h3, h4⟩
 | inr r => exact ⟨r, Ev.sqr h1, h2⟩
theorem OkE.out {f : Nat → Nat → Option R} {P : S ⊕ R → Prop} {Q : R → Prop} (h : OkE f Q) (k : ∀ r, Q r → P (.inr r)) : OkE (fun K k => (Tc.out (f K k) : Option (S ⊕ R))) P := by
 obtain ⟨x, h1, h2⟩ := h
 exact ⟨.inr x, Ev.out h1, k x h2⟩
theorem OkE.inn {P : S ⊕ R → Prop} (s : S) (h : P (.inl s)) : OkE (fun _ _ => (Tc.inn s : Option (S ⊕ R))) P := ⟨.inl s, Ev.inn s, h⟩
end
theorem OkE.pick {β : Type} (a : Int) {m : Int} (h0 : 0 < m) (h1 : m ≤ 1000000000000) {g : Nat → Nat → Int → Option β} {Q : β → Prop} (k : ∀ r, 0 ≤ r → r < m → OkE (fun K k => g K k r) Q) : OkE (fun K k => (keep_Pick a m).bind (g K k)) Q := by
 obtain ⟨r, e, h2, h3⟩ := pick_ok a h0 h1
 exact OkE.bindO e (k r h2 h3)
theorem OkE.idx {α β : Type} {l : List α} {i : Int} (h0 : 0 ≤ i) (h1 : i < l.length) {g : Nat → Nat → α → Option β} {Q : β → Prop} (k : ∀ y, y ∈ l → OkE (fun K k => g K k y) Q) : OkE (fun K k => (Tc.idx l i).bind (g K k)) Q := by
 have hlt : i.toNat < l.length := by omega
 have := idx_get hlt
 rw [show ((i.toNat : Nat) : Int) = i by omega] at this
 exact OkE.bindO this (k _ (List.getElem_mem hlt))
end Go.Proofs.YtocfnpnnbmicmaaDoor.Tc
end
section
set_option linter.unusedVariables false
set_option linter.unusedSimpArgs false
namespace Go.Proofs.YtocfnpnnbmicmaaDoor.Tc
open Go
structure Bd (c : VFunc) : Prop where
 b : c.Blocks.length ≤ 17592186044000
 i : ∀ b, b ∈ c.Blocks → b.Instrs.length ≤ 2199023255552
theorem Bd.sm {c : VFunc} (h : Bd c) : SmF c := ⟨h.b, fun b hb => by have := h.i b hb; unfold Sm; omega⟩
theorem Bd.vd {c : VFunc} (h : Bd c) (hv : validB c = true) : Vd c := ⟨hv, h.i⟩
theorem VF.bd {p : Int} {c : VFunc} (h : VF p c) : Bd c := ⟨by have := h.len; omega, fun b hb => by
 obtain ⟨k, hk, rfl⟩ := mem_bk hb
 have := h.ilen hk; omega⟩
theorem ev_sameA {a : Allocation} (h1 : a.Locations.length ≤ 17592186044000) (h2 : SmA a) : Ev (fun K _ => ref32_SameAllocation K a a) true := by
 have hs := h2.s
 have e1 : Ev (fun K k => ref32_SameAllocation_l1 K a a k 0) (if a.Locations.all (fun _ => true) then .inl () else .inr false) :=
  ev_all a.Locations (fun K k i => ref32_SameAllocation_l1 K a a k i) (fun _ => true) false (Ev.step (fun K k => rfl) (Ev.f (by simp) (Ev.inn ())))
   (fun i x hx hi => by
    refine ⟨fun _ r hr => Ev.step (fun K k => rfl) (Ev.t (by simpa using hi) (Ev.bindO (idx_eq hx) (Ev.bindO (idx_eq hx) (Ev.f (by simp) ?_)))), fun h => by cases h⟩
    rw [w64_succ (i := i) (by omega)]; exact hr)
 have e2 : Ev (fun K k => ref32_SameAllocation_l2 K a a k 0) (if a.Spills.all (fun _ => true) then .inl () else .inr false) :=
  ev_all a.Spills (fun K k i => ref32_SameAllocation_l2 K a a k i) (fun _ => true) false (Ev.step (fun K k => rfl) (Ev.f (by simp) (Ev.inn ())))
   (fun i x hx hi => by
    have e := ev_same32 (b := x.Others) (h2.o x (List.mem_of_getElem? hx))
    rw [decide_eq_true (rfl : x.Others = x.Others)] at e
    refine ⟨fun _ r hr => Ev.step (fun K k => rfl) (Ev.t (by simpa using hi) (Ev.bindO (idx_eq hx) (Ev.bindO (idx_eq hx) (Ev.bind (x := false) (Ev.f (by simp) (Ev.bind e (Ev.some _))) (Ev.f rfl ?_))))), fun h => by cases h⟩
    rw [w64_succ (i := i) (by omega)]; exact hr)
 have t1 : a.Locations.all (fun _ => true) = true := by simp
 have t2 : a.Spills.all (fun _ => true) = true := by simp
 rw [t1] at e1
 rw [t2] at e2
 unfold ref32_SameAllocation
 exact Ev.f (by simp) (Ev.sql (Ev.loop e1) (Ev.sql (Ev.loop e2) (Ev.some _)))
theorem both_alloc {c : VFunc} (h : Bd c) : ∃ a, Ev (fun K _ => regalloc_Allocate K c) a ∧ Ev (fun K _ => ref32_Allocate K c) a ∧ Ev (fun K _ => ref32_SameAllocation K a.1 a.1) true := by
 have e0 : Ev (fun K _ => ref32_SameAllocation K (⟨[], [], 0⟩ : Allocation) ⟨[], [], 0⟩) true := ev_sameA (by simp) ⟨by simp, fun s hs => by simp at hs⟩
 cases hv : validB c with
 | false => exact ⟨(⟨[], [], 0⟩, 1), ev_palloc0 h.sm hv, ev_ralloc0 h.sm hv, e0⟩
 | true =>
  have v := h.vd hv
  have hr1 := v.h.r1
  have ha := alc v
  refine ⟨AL c, ev_palloc v, ev_ralloc v, ?_⟩
  unfold AL
  split
  ·exact e0
  ·split
   ·exact e0
   ·exact ev_sameA (by rw [ha.l]; omega) (alc_sm v ha)
structure BS (bs : List Block) : Prop where
 l : bs.length ≤ 1000
 i : ∀ b, b ∈ bs → b.Instrs.length ≤ 1000
theorem BS.set {bs : List Block} (h : BS bs) (m : Nat) {b : Block} (hb : b.Instrs.length ≤ 1000) : BS (bs.set m b) := ⟨by simp; exact h.l, fun x hx => by
 rcases List.mem_or_eq_of_mem_set hx with q | q
 ·exact h.i x q
 ·rw [q]; exact hb⟩
theorem BS.bd {P R : Int} {bs : List Block} (h : BS bs) : Bd ⟨P, R, bs⟩ := ⟨by have := h.l; show bs.length ≤ _; omega, fun b hb => by have := h.i b hb; omega⟩
theorem word_e {β : Type} (a b : Int) {g : Nat → Nat → Int → Option β} {Q : β → Prop} (k : ∀ r, OkE (fun K k => g K k r) Q) : OkE (fun K k => (keep_Word a b).bind (g K k)) Q := by
 obtain ⟨r, e⟩ := word_ok a b
 exact OkE.bindO e (k r)
theorem mutA_ok {P R : Int} {bs : List Block} {m : Int} {b : Block} {j : Int} {v : VInstr} {n k : Int} (h : BS bs) (hb : b.Instrs.length ≤ 1000) (hv : v.Args.length ≤ 17592186044000) : OkE (fun _ _ => mutA P R bs m b j v n k) Bd := by
 have hl := h.l
 have s : ∀ {is : List VInstr} {e r t f : Int}, is.length ≤ 1000 → ∀ P R, Bd ⟨P, R, bs.set m.toNat ⟨is, e, r, t, f⟩⟩ := fun hi P R => (h.set m.toNat (b := ⟨_, _, _, _, _⟩) hi).bd
 unfold mutA
 refine OkE.cnd (fun _ => OkE.some _ (s hb _ _)) fun _ => OkE.cnd (fun _ => OkE.some _ (s hb _ _)) fun _ => OkE.cnd (fun _ => OkE.some _ (s hb _ _)) fun _ => OkE.cnd (fun _ => OkE.some _ (s hb _ _)) fun _ => OkE.cnd (fun _ => OkE.some _ (s hb _ _)) fun _ => OkE.cnd (fun _ => OkE.some _ (s hb _ _)) fun _ => ?_
 refine OkE.cnd (fun _ => OkE.some _ (s (by simpa using hb) _ _)) fun _ => OkE.cnd (fun _ => OkE.some _ (s (by simpa using hb) _ _)) fun _ => OkE.cnd (fun _ => OkE.some _ (s (by simpa using hb) _ _)) fun _ => OkE.cnd (fun _ => OkE.some _ (s (by simpa using hb) _ _)) fun _ => ?_
 refine OkE.cnd (fun _ => word_e _ _ fun u => OkE.some _ (s (by simpa using hb) _ _)) fun _ => OkE.cnd (fun _ => OkE.bindO (app_eq (by simp; omega) (by simp; omega)) (OkE.bindO (app_eq (by simp; omega) (by simp; omega)) (OkE.some _ (s (by simpa using hb) _ _)))) fun _ => OkE.cnd (fun _ => ?_) fun _ => OkE.some _ (s hb _ _)
 have hB := h.set m.toNat (b := ⟨b.Instrs, b.End, b.Reg, b.Target, b.Else⟩) hb
 generalize bs.set m.toNat ⟨b.Instrs, b.End, b.Reg, b.Target, b.Else⟩ = B at hB
 have hBl := hB.l
 obtain ⟨q, hq, hq2⟩ : ∃ q : Nat, (if (0 : Int) < (if (B.length : Int) < n then (B.length : Int) else n) then (if (B.length : Int) < n then (B.length : Int) else n) else 0) = (q : Int) ∧ q ≤ B.length := by
  refine ⟨(if (0 : Int) < (if (B.length : Int) < n then (B.length : Int) else n) then (if (B.length : Int) < n then (B.length : Int) else n) else 0).toNat, ?_, ?_⟩
  ·split
   ·split <;> omega
   ·split <;> omega
  ·split
   ·split <;> omega
   ·omega
 rw [hq]
 exact OkE.bindO (subHi_eq hq2) (OkE.some _ ⟨by show (B.take q).length ≤ _; simp; omega, fun x hx => by have := hB.i x (List.mem_of_mem_take hx); omega⟩)
theorem mutB_ok {P R : Int} {bs : List Block} {m : Int} {b : Block} {n k : Int} (h : BS bs) (hb : b.Instrs.length ≤ 1000) : OkE (fun _ _ => mutB P R bs m b n k) Bd := by
 have hl := h.l
 have s : ∀ {is : List VInstr} {e r t f : Int}, is.length ≤ 1000 → ∀ P R, Bd ⟨P, R, bs.set m.toNat ⟨is, e, r, t, f⟩⟩ := fun hi P R => (h.set m.toNat (b := ⟨_, _, _, _, _⟩) hi).bd
 unfold mutB
 refine OkE.cnd (fun _ => OkE.some _ (s hb _ _)) fun _ => OkE.cnd (fun _ => OkE.some _ (s hb _ _)) fun _ => OkE.cnd (fun _ => OkE.some _ (s hb _ _)) fun _ => OkE.cnd (fun _ => OkE.some _ (s hb _ _)) fun _ => OkE.cnd (fun _ => OkE.some _ (s hb _ _)) fun _ => OkE.cnd (fun _ => OkE.some _ (s hb _ _)) fun _ => ?_
 refine OkE.cnd (fun _ => OkE.some _ (s hb _ _)) fun _ => OkE.cnd (fun _ => OkE.some _ (s hb _ _)) fun _ => OkE.cnd (fun _ => OkE.some _ (s hb _ _)) fun _ => OkE.cnd (fun _ => OkE.some _ (s hb _ _)) fun _ => ?_
 refine OkE.cnd (fun _ => word_e _ _ fun u => OkE.some _ (s hb _ _)) fun _ => OkE.cnd (fun _ => OkE.bindO (app_eq (by simp) (by simp)) (OkE.bindO (app_eq (by simp) (by simp)) (OkE.some _ (s hb _ _)))) fun _ => OkE.cnd (fun _ => ?_) fun _ => OkE.some _ (s hb _ _)
 have hB := h.set m.toNat (b := ⟨b.Instrs, b.End, b.Reg, b.Target, b.Else⟩) hb
 generalize bs.set m.toNat ⟨b.Instrs, b.End, b.Reg, b.Target, b.Else⟩ = B at hB
 have hBl := hB.l
 obtain ⟨q, hq, hq2⟩ : ∃ q : Nat, (if (0 : Int) < (if (B.length : Int) < n then (B.length : Int) else n) then (if (B.length : Int) < n then (B.length : Int) else n) else 0) = (q : Int) ∧ q ≤ B.length := by
  refine ⟨(if (0 : Int) < (if (B.length : Int) < n then (B.length : Int) else n) then (if (B.length : Int) < n then (B.length : Int) else n) else 0).toNat, ?_, ?_⟩
  ·split
   ·split <;> omega
   ·split <;> omega
  ·split
   ·split <;> omega
   ·omega
 rw [hq]
 exact OkE.bindO (subHi_eq hq2) (OkE.some _ ⟨by show (B.take q).length ≤ _; simp; omega, fun x hx => by have := hB.i x (List.mem_of_mem_take hx); omega⟩)
theorem next_e {β : Type} (d : Fullingkeep2Digits) {m : Int} (h0 : 0 < m) (h1 : m ≤ 1000000000000) {g : Nat → Nat → Int × Fullingkeep2Digits → Option β} {Q : β → Prop} (k : ∀ r, OkE (fun K k => g K k r) Q) : OkE (fun K k => (keep2_Digits_Next d m).bind (g K k)) Q := by
 obtain ⟨r, d', e, _⟩ := next_ok d h0 h1
 exact OkE.bindO e (k _)
theorem mut_vf {p : Int} {c : VFunc} (h : VF p c) (how at_ : Int) : OkE (fun K _ => keep2_MutateVFunc K c how at_) Bd := by
 have hl := h.len
 have hv := h.vd
 have hbs : BS c.Blocks := ⟨by omega, fun b hb => by
  obtain ⟨k, hk, rfl⟩ := mem_bk hb
  have := h.ilen hk; omega⟩
 have hargs : ∀ b, b ∈ c.Blocks → ∀ v, v ∈ b.Instrs → v.Args.length ≤ 6 := fun b hb v hv' => by
  obtain ⟨k, hk, rfl⟩ := mem_bk hb
  exact (hv.i hk hv').n
 unfold keep2_MutateVFunc
 have l1 : OkE (fun K k => keep2_MutateVFunc_l1 K c k (0, [])) (fun bs => (BS bs ∧ bs.length = c.Blocks.length) ∧ ∀ b, b ∈ bs → ∀ v, v ∈ b.Instrs → v.Args.length ≤ 6) := by
  have key : ∀ (n i : Nat) (bs : List Block), i + n = c.Blocks.length → bs.length = i → BS bs → (∀ b, b ∈ bs → ∀ v, v ∈ b.Instrs → v.Args.length ≤ 6) → OkE (fun K k => keep2_MutateVFunc_l1 K c k ((i : Int), bs)) (fun bs => (BS bs ∧ bs.length = c.Blocks.length) ∧ ∀ b, b ∈ bs → ∀ v, v ∈ b.Instrs → v.Args.length ≤ 6) := by
   intro n
   induction n with
   | zero =>
    intro i bs hi hb hbs' ha
    exact OkE.step (fun K k => rfl) (OkE.ev (Ev.f (by simp; omega) (Ev.some _)) ⟨⟨hbs', by show bs.length = _; omega⟩, ha⟩)
   | succ n ih =>
    intro i bs hi hb hbs' ha
    refine OkE.step (fun K k => rfl) (OkE.cnd (fun _ => OkE.idx (by omega) (by omega) fun y hy => ?_) (fun q => by have := of_decide_eq_false q; omega))
    have hyl := hbs.i y hy
    refine OkE.bindO (app_eq (by simp; omega) (by simp; omega)) (OkE.bindO (app_eq (by simp; omega) (by simp; omega)) ?_)
    rw [w64_succ (i := i) (by omega)]
    refine ih (i + 1) _ (by omega) (by simp [hb]) ⟨by simp; omega, fun x hx => ?_⟩ (fun x hx v hv' => ?_)
    ·rcases List.mem_append.1 hx with q | q
     ·exact hbs'.i x q
     ·rw [List.mem_singleton.1 q]; simpa using hyl
    ·rcases List.mem_append.1 hx with q | q
     ·exact ha x q v hv'
     ·rw [List.mem_singleton.1 q] at hv'; exact hargs y hy v (by simpa using hv')
  exact key c.Blocks.length 0 [] (by omega) rfl ⟨by simp, fun b hb => by simp at hb⟩ (fun b hb => by simp at hb)
 refine OkE.bind (OkE.loop l1) fun bs hbs2 => ?_
 obtain ⟨⟨hB, hBl⟩, hBa⟩ := hbs2
 refine OkE.pick at_ (m := (bs.length : Int)) (by omega) (by omega) fun m h0 h1 => OkE.idx h0 h1 fun b hb => ?_
 have hbl := hB.i b hb
 refine OkE.cnd (fun q => ?_) (fun q => ?_)
 ·have hpos : 0 < b.Instrs.length := by have := of_decide_eq_true q; omega
  refine OkE.pick _ (m := (b.Instrs.length : Int)) (by omega) (by omega) fun j h2 h3 => OkE.idx h2 h3 fun v hv' => next_e _ (by decide) (by decide) fun r6 => next_e _ (by decide) (by decide) fun r7 => ?_
  have := hBa b hb v hv'
  exact mutA_ok hB hbl (by omega)
 ·exact next_e _ (by decide) (by decide) fun r6 => next_e _ (by decide) (by decide) fun r7 => mutB_ok hB hbl
end Go.Proofs.YtocfnpnnbmicmaaDoor.Tc
end
section
set_option maxRecDepth 100000
namespace Go.Proofs.YtocfnpnnbmicmaaDoor.Tc
open Go
theorem exm11 (K : Nat) : law34_RegAllocExamples (K + 100) = some true := by kernel_rfl
theorem ev_ex11 : Ev (fun K _ => law34_RegAllocExamples K) true := ⟨100, fun K k hK hk => by
 obtain ⟨j, rfl⟩ : ∃ j, K = j + 100 := ⟨K - 100, by omega⟩
 exact exm11 j⟩
end Go.Proofs.YtocfnpnnbmicmaaDoor.Tc
end
section
set_option linter.unusedVariables false
set_option linter.unusedSimpArgs false
namespace Go.Proofs.YtocfnpnnbmicmaaDoor.Tc
open Go
theorem raw_bd13 {c : VFunc} (h : ok_VFunc c) : Bd c := by
 have h1 := h.2.2.1.1
 unfold reachBytes at h1
 refine ⟨by omega, fun b hb => ?_⟩
 have h2 := (h.2.2.2 b hb).1.1.1
 unfold reachBytes at h2
 omega
theorem mt13_l1 { a b d : VFunc} (h : ∀ x, x ∈ [a, b, d] → Bd x) : Ev (fun K k => law34_RegAllocMatches_l1 K a b d k 0) (.inl ()) := by
 have key : Ev (fun K k => law34_RegAllocMatches_l1 K a b d k ((0 : Nat) : Int)) (.inl ()) := by
  refine upto (P := fun i => Ev (fun K k => law34_RegAllocMatches_l1 K a b d k (i : Int)) (.inl ())) (n := 3) (Ev.step (fun K k => rfl) (Ev.f (by simp) (Ev.inn ()))) fun i hi ih => ?_
  have hlt : i < [a, b, d].length := by simpa using hi
  have hg := idx_get hlt
  have hy := h _ (List.getElem_mem hlt)
  generalize [a, b, d][i] = y at hg hy
  obtain ⟨t, t1, t2, t3⟩ := both_alloc hy
  refine Ev.step (fun K k => rfl) (Ev.t (by simp; omega) (Ev.bindO hg (Ev.bind t1 (Ev.bind t2 (Ev.bind (x := false) (Ev.f (by simp) (Ev.bind t3 (Ev.some _))) (Ev.f rfl ?_))))))
  rw [w64_succ (i := i) (by omega)]; exact ih
 simpa using key
theorem pure13 (raw : VFunc) (l : List Int) (a2 a3 a4 : Int) (hraw : ok_VFunc raw) (_ : lenOk 8 l ∧ ∀ x, x ∈ l → I64 x) (_ : I64 a2) (_ : I64 a3) (_ : I64 a4) : ∃ K, law34_RegAllocMatches K raw l a2 a3 a4 = some true := by
 refine Ev.fst ?_
 unfold law34_RegAllocMatches
 refine Ev.cnd (fun _ => Ev.bind ev_ex11 (Ev.some _)) (fun _ => ?_)
 refine ev_head fun p c hc => ?_
 obtain ⟨d, ed, hd⟩ := mut_vf hc a3 a4
 refine Ev.bind ed (Ev.sql (Ev.loop (mt13_l1 fun x hx => ?_)) (Ev.bind ev_ex11 (Ev.some _)))
 simp only [List.mem_cons, List.not_mem_nil, or_false] at hx
 rcases hx with rfl | rfl | rfl
 ·exact raw_bd13 hraw
 ·exact hc.bd
 ·exact hd
end Go.Proofs.YtocfnpnnbmicmaaDoor.Tc
end
