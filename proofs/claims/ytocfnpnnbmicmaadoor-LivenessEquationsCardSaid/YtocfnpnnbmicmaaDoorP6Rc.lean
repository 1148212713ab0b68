/- liveness.analyze and the reference's LiveBlocks come to the live registers. -/
import Derived.Test.YtocfnpnnbmicmaaDoorP5Rc
set_option linter.unusedVariables false
set_option linter.unusedSimpArgs false
namespace Go.Proofs.YtocfnpnnbmicmaaDoor.Tc
open Go

theorem nw_le {R : Int} (h : R ≤ 3000) : nw R ≤ 100 := by unfold nw; omega
theorem transfer_ok {c : VFunc} (h : Vd c) {v : VInstr} (hv : InsV c v) {ws l : List Int} (hr : Rep (nw c.Regs) ws l) : ∃ ws', Ev (fun K _ => liveness_transfer K ws v) ws' ∧ Rep (nw c.Regs) ws' (tr v l) := by
  have hlr : (rd v).length ≤ c.Regs.toNat := srt_len (srt_rd v) fun x hx => by have := hv.r x hx; have := h.h.r0; omega
  have hlw : (wr v).length ≤ 1 := by unfold wr; split <;> simp
  have hR := h.h.r1
  obtain ⟨w1, e1, r1⟩ := remove_l hR hv.w (by unfold Sm; omega) (wr v) [] ws l rfl hr
  obtain ⟨w2, e2, r2⟩ := add_l hR hv.r (by unfold Sm; omega) (rd v) [] w1 _ rfl r1
  refine ⟨w2, ?_, r2⟩
  unfold liveness_transfer
  exact Ev.bindO (vwrites v) (Ev.bind (Ev.loop e1) (Ev.bind (ev_vreads (by have := hv.n; omega)) (Ev.bind (Ev.loop e2) (Ev.some _))))
theorem addTerm_ok {c : VFunc} (h : Vd c) {b : Block} (hb : EndV c b) {ws l : List Int} (hr : Rep (nw c.Regs) ws l) : ∃ ws', liveness_addTerminator ws b = some ws' ∧ Rep (nw c.Regs) ws' (uni l (er b)) := by
  unfold liveness_addTerminator
  cases he : ((b.End == 2) || (b.End == 3)) with
  | false => exact ⟨ws, rfl, by rw [show er b = [] by unfold er; rw [he]; rfl]; exact hr⟩
  | true =>
    have e : er b = [b.Reg] := by unfold er; rw [he]; rfl
    have h1 := hb.e b.Reg (by rw [e]; simp)
    obtain ⟨w1, e1, r1⟩ := add_ok h.h.r1 hr h1.1 h1.2
    refine ⟨w1, ?_, by rw [e]; exact r1⟩
    simp only [cnd, e1, Option.bind_some]
theorem block_l5 {c : VFunc} (h : Vd c) {b : Block} (hb : b.Instrs.length ≤ 2199023255552) (hv : ∀ v, v ∈ b.Instrs → InsV c v) : ∀ (n : Nat) (p q : List VInstr) (ws l : List Int), p.length = n → b.Instrs = p ++ q → Rep (nw c.Regs) ws l →
    ∃ ws', Ev (fun K k => liveness_analyze_l5 K b k ((n : Int) - 1, ws)) ws' ∧ Rep (nw c.Regs) ws' (p.foldr tr l) := by
  intro n
  induction n with
  | zero =>
    intro p q ws l hp he hr
    have : p = [] := List.eq_nil_of_length_eq_zero hp
    subst this
    exact ⟨ws, Ev.step (fun K k => rfl) (Ev.f (by simp) (Ev.some _)), hr⟩
  | succ n ih =>
    intro p q ws l hp he hr
    obtain ⟨p', v, rfl⟩ : ∃ p' v, p = p' ++ [v] := ⟨p.dropLast, p.getLast (by intro e; subst e; simp at hp), (List.dropLast_concat_getLast _).symm⟩
    have hl : p'.length = n := by simpa using hp
    have hin : b.Instrs.length = n + 1 + q.length := by rw [he]; simp; omega
    obtain ⟨w1, e1, r1⟩ := transfer_ok h (hv v (by rw [he]; simp)) hr
    obtain ⟨w2, e2, r2⟩ := ih p' (v :: q) w1 _ hl (by rw [he]; simp) r1
    have hg : idx b.Instrs (((n + 1 : Nat) : Int) - 1) = some v := by
      rw [show ((n + 1 : Nat) : Int) - 1 = (n : Int) by omega]
      refine idx_eq ?_
      rw [he, ← hl]; simp
    have hw : w64 (((n + 1 : Nat) : Int) - 1 - 1) = (n : Int) - 1 := by rw [w64_id (by omega) (by omega)]; omega
    refine ⟨w2, Ev.step (fun K k => rfl) (Ev.t (by simp) (Ev.bindO hg (Ev.bind e1 ?_))), by rw [List.foldr_append]; exact r2⟩
    rw [hw]; exact e2

/-- Rows of words hold the sets I. -/
structure RepS (n w : Nat) (rows : List (List Int)) (I : Nat → List Int) : Prop where
  l : rows.length = n
  r : ∀ k, k < n → ∃ ws, rows[k]? = some ws ∧ Rep w ws (I k)
theorem RepS.set {n w : Nat} {rows : List (List Int)} {I : Nat → List Int} (h : RepS n w rows I) {k : Nat} (hk : k < n) {ws l : List Int} (hr : Rep w ws l) : RepS n w (rows.set k ws) (fup I k l) := ⟨by rw [List.length_set]; exact h.l, fun j hj => by
  by_cases e : j = k
  · subst e; rw [fup_self]; exact ⟨ws, List.getElem?_set_self (by rw [h.l]; exact hk), hr⟩
  · rw [fup_ne _ _ e, List.getElem?_set_ne (Ne.symm e)]; exact h.r j hj⟩
theorem sets_same {α : Type} {l : List α} {k : Nat} {x : α} (h : l[k]? = some x) : l.set k x = l := by
  refine List.ext_getElem? fun j => ?_
  by_cases e : j = k
  · subst e
    rw [List.getElem?_set_self (by
      rcases Nat.lt_or_ge j l.length with q | q
      · exact q
      · rw [List.getElem?_eq_none q] at h; cases h), h]
  · rw [List.getElem?_set_ne (Ne.symm e)]
theorem fup_fup (I : Nat → List Int) (k : Nat) (a b : List Int) : fup (fup I k a) k b = fup I k b := by
  funext j; unfold fup; split <;> rfl
theorem fup_same (I : Nat → List Int) (k : Nat) : fup I k (I k) = I := by
  funext j; unfold fup; split
  · rename_i h; rw [h]
  · rfl
theorem analyze_l4 {c : VFunc} (h : Vd c) {I : Nat → List Int} {s : Bool × Int × List (List Int) × List (List Int)} {r : List Int} (hr : ∀ t, t ∈ r → 0 ≤ t ∧ t < (c.Blocks.length : Int)) (hr2 : r.length ≤ 2) {j : Nat} (hj : j < c.Blocks.length) (hs : s.2.1 = (j : Int)) {ins : List (List Int)} (hI : RepS c.Blocks.length (nw c.Regs) ins I) : ∀ (q p : List Int) (outs : List (List Int)) (O : Nat → List Int), r = p ++ q → RepS c.Blocks.length (nw c.Regs) outs O →
    ∃ outs', Ev (fun K k => liveness_analyze_l4 K s r k ((p.length : Int), outs, ins)) (outs', ins) ∧ RepS c.Blocks.length (nw c.Regs) outs' (fup O j (q.foldl (fun a t => uni a (I t.toNat)) (O j))) := by
  intro q
  induction q with
  | nil =>
    intro p outs O he hO
    refine ⟨outs, Ev.step (fun K k => rfl) (Ev.f ?_ (Ev.some _)), ?_⟩
    · subst he; simp
    · simp only [List.foldl_nil, fup_same]; exact hO
  | cons t q ih =>
    intro p outs O he hO
    have hlt : (p.length : Int) < (r.length : Int) := by subst he; simp; omega
    have hg : idx r (p.length : Int) = some t := idx_eq (by subst he; simp)
    have hw : w64 ((p.length : Int) + 1) = ((p ++ [t]).length : Int) := by
      rw [w64_id (by omega) (by omega)]; simp
    have ht := hr t (by subst he; simp)
    obtain ⟨wo, ho1, ho2⟩ := hO.r j hj
    obtain ⟨wi, hi1, hi2⟩ := hI.r t.toNat (by omega)
    obtain ⟨w1, e1, r1⟩ := ev_sunion (nw_le h.h.r1) ho2 hi2
    obtain ⟨o2, e2, r2⟩ := ih (p ++ [t]) (outs.set j w1) _ (by subst he; simp) (hO.set hj r1)
    have hgt : idx ins t = some wi := by
      have := idx_eq hi1
      rwa [show ((t.toNat : Nat) : Int) = t by omega] at this
    refine ⟨o2, Ev.step (fun K k => rfl) (Ev.t (by simpa using hlt) (Ev.bindO hg (Ev.bindO (x := wo) (by rw [hs]; exact idx_eq ho1) (Ev.bindO hgt (Ev.bind e1 ?_))))), ?_⟩
    · show Ev (fun K k => liveness_analyze_l4 K s r k (w64 ((p.length : Int) + 1), outs.set s.2.1.toNat w1, ins.set t.toNat wi)) _
      rw [hw, hs, sets_same hi1]; exact e2
    · rw [fup_fup, fup_self] at r2; exact r2
/-- The end of block j after what has been found before: the program adds to it, the reference makes it anew. -/
theorem ufold_inv {c : VFunc} {I O : Nat → List Int} (hi : Inv c I O) {j : Nat} (hj : j < c.Blocks.length) : (su (bk c j)).foldl (fun a t => uni a (I t.toNat)) (O j) = U (bk c j) I := by
  refine srt_ext (srt_ufold _ _ (hi.so j hj)) (srt_U _ _) fun x => ?_
  rw [mem_ufold]
  constructor
  · rintro (h1 | h1)
    · exact hi.oo j hj x h1
    · exact mem_U.2 h1
  · exact fun h1 => .inr (mem_U.1 h1)
theorem uni_inv {c : VFunc} {I O : Nat → List Int} (hi : Inv c I O) {j : Nat} (hj : j < c.Blocks.length) : uni (I j) (blkIn (bk c j) (U (bk c j) I)) = blkIn (bk c j) (U (bk c j) I) := by
  refine srt_ext (srt_uni (hi.si j hj)) (srt_blkIn (srt_U _ _)) fun x => ?_
  rw [mem_uni]
  exact ⟨fun h => h.elim (hi.ii j hj x) id, .inr⟩
theorem app_nil {bytes : Nat} {l : List Int} (h : l.length * bytes ≤ 140737488355328) (h2 : l.length ≤ 281474976710656) : app bytes ([] : List Int) l = some l := by
  rw [app_eq (by simpa using h) (by simpa using h2)]; simp
theorem analyze_l3 {c : VFunc} (h : Vd c) {I0 : Nat → List Int} : ∀ (n : Nat) (m : Bool) (ins outs : List (List Int)) (I O : Nat → List Int), n ≤ c.Blocks.length → Pass c I0 I O m n → (m = true → tot c.Blocks.length I0 < tot c.Blocks.length I) → RepS c.Blocks.length (nw c.Regs) ins I → RepS c.Blocks.length (nw c.Regs) outs O →
    ∃ m' ins' outs' I' O', Ev (fun K k => liveness_analyze_l3 K c k (m, (n : Int) - 1, outs, ins)) (m', outs', ins') ∧ Pass c I0 I' O' m' 0 ∧ (m' = true → tot c.Blocks.length I0 < tot c.Blocks.length I') ∧ RepS c.Blocks.length (nw c.Regs) ins' I' ∧ RepS c.Blocks.length (nw c.Regs) outs' O' := by
  have hb1 := h.h.b1
  have hnw := nw_le h.h.r1
  intro n
  induction n with
  | zero =>
    intro m ins outs I O hn hp hm hI hO
    exact ⟨m, ins, outs, I, O, Ev.step (fun K k => rfl) (Ev.f (by simp) (Ev.some _)), hp, hm, hI, hO⟩
  | succ n ih =>
    intro m ins outs I O hn hp hm hI hO
    have hk : n < c.Blocks.length := hn
    have hidx : ((n + 1 : Nat) : Int) - 1 = (n : Int) := by omega
    have hw : w64 ((n : Int) - 1) = (n : Int) - 1 := w64_id (by omega) (by omega)
    obtain ⟨o1, e1, r1⟩ := analyze_l4 h (I := I) (s := (m, (n : Int), outs, ins)) (h.e hk).s (su_len _) hk rfl hI (su (bk c n)) [] outs O rfl hO
    rw [ufold_inv hp.inv hk] at r1
    obtain ⟨wo, ho1, ho2⟩ := r1.r n hk
    rw [fup_self] at ho2
    obtain ⟨w2, e2, r2⟩ := addTerm_ok h (h.e hk) ho2
    obtain ⟨w3, e3, r3⟩ := block_l5 h (h.len hk) (fun v hv => h.i hk hv) _ (bk c n).Instrs [] w2 _ rfl (by simp) r2
    have r3' : Rep (nw c.Regs) w3 (blkIn (bk c n) (U (bk c n) I)) := r3
    obtain ⟨wi, hi1, hi2⟩ := hI.r n hk
    obtain ⟨w4, e4, r4⟩ := ev_sunion hnw hi2 r3'
    rw [uni_inv hp.inv hk] at r4
    have hlen := h.len hk
    have hwl : w64 (((bk c n).Instrs.length : Int) - 1) = ((bk c n).Instrs.length : Int) - 1 := w64_id (by omega) (by omega)
    let d : Bool := decide (∃ x, x ∈ blkIn (bk c n) (U (bk c n) I) ∧ x ∉ I n)
    have hd : d = false → blkIn (bk c n) (U (bk c n) I) = I n := fun hd => by
      have hd := of_decide_eq_false hd
      refine srt_ext (srt_blkIn (srt_U _ _)) (hp.inv.si n hk) fun x => ⟨fun hx => ?_, hp.inv.ii n hk x⟩
      exact Classical.byContradiction fun hc => hd ⟨x, hx, hc⟩
    have hp' : Pass c I0 _ _ (m || d) n := hp.next h hk (m' := m || d) fun hf => by
      simp only [Bool.or_eq_false_iff] at hf
      exact ⟨hf.1, hd hf.2⟩
    have hm' : (m || d) = true → tot c.Blocks.length I0 < tot c.Blocks.length (fup I n (blkIn (bk c n) (U (bk c n) I))) := fun hf => by
      have h1 := tot_fup I hk (blkIn (bk c n) (U (bk c n) I))
      have h2 := srt_sub_len (hp.inv.si n hk) (srt_blkIn (srt_U (bk c n) I)) (hp.inv.ii n hk)
      cases hmm : m with
      | true => have := hm hmm; omega
      | false =>
        rw [hmm, Bool.false_or] at hf
        obtain ⟨x, h3, h4⟩ := of_decide_eq_true hf
        have h5 : (I n).length ≠ (blkIn (bk c n) (U (bk c n) I)).length := fun e => h4 (by rw [h2.2 e]; exact h3)
        have := hp.le; omega
    obtain ⟨m', ins', outs', I', O', e5, h5⟩ := ih (m || d) (ins.set n w4) o1 _ _ (by omega) hp' hm' (hI.set hk r4) r1
    refine ⟨m', ins', outs', I', O', Ev.step (fun K k => rfl) (Ev.t (by simp) (Ev.bind (x := (m || d, o1, ins.set n w4)) ?_ ?_)), h5⟩
    · simp only [hidx]
      refine Ev.bindO (bk_idx hk) (Ev.bind (ev_vsucc _) (Ev.bind (Ev.loop e1) (Ev.bindO (x := wo) (idx_eq ho1) (Ev.bindO (app_nil (by rw [ho2.w.1]; omega) (by rw [ho2.w.1]; omega)) (Ev.bindO e2 ?_)))))
      simp only [hwl]
      refine Ev.bind (Ev.loop e3) (Ev.bindO (x := wi) (idx_eq hi1) (Ev.bind e4 ?_))
      simp only [Int.toNat_natCast, sets_same ho1]
      refine Ev.cnd (fun hc => ?_) (fun hc => ?_)
      · have : d = true := hc
        exact (Ev.some _).cast (by rw [this]; simp)
      · have : d = false := hc
        exact (Ev.some _).cast (by rw [this]; simp)
    · show Ev (fun K k => liveness_analyze_l3 K c k (m || d, w64 (((n + 1 : Nat) : Int) - 1 - 1), o1, ins.set n w4)) _
      rw [hidx, hw]; exact e5
theorem tot_bound {c : VFunc} (h : Vd c) {I O : Nat → List Int} (hi : Inv c I O) : tot c.Blocks.length I ≤ 3000000 := by
  have h1 := tot_le (n := c.Blocks.length) (m := 3000) (I := I) fun k hk => by have := hi.len h hk; have := h.h.r1; omega
  have := h.h.b1; omega
theorem analyze_l2 {c : VFunc} (h : Vd c) : ∀ (B : Nat) (ins outs : List (List Int)) (I O : Nat → List Int), 3000000 ≤ tot c.Blocks.length I + B → Inv c I O → RepS c.Blocks.length (nw c.Regs) ins I → RepS c.Blocks.length (nw c.Regs) outs O →
    ∃ ins' outs', Ev (fun K k => liveness_analyze_l2 K c k (true, outs, ins)) (outs', ins') ∧ RepS c.Blocks.length (nw c.Regs) ins' (LI c) ∧ RepS c.Blocks.length (nw c.Regs) outs' (LO c) := by
  have hb1 := h.h.b1
  intro B
  induction B with
  | zero =>
    intro ins outs I O hB hi hI hO
    have hw : w64 ((c.Blocks.length : Int) - 1) = (c.Blocks.length : Int) - 1 := w64_id (by omega) (by omega)
    obtain ⟨m', ins', outs', I', O', e, hp, hm, r1, r2⟩ := analyze_l3 h (I0 := I) c.Blocks.length false ins outs I O (Nat.le_refl _) ⟨hi, Nat.le_refl _, fun _ => ⟨fun _ _ => rfl, fun k h1 h2 => by omega⟩⟩ (fun h => by cases h) hI hO
    cases hmm : m' with
    | true => have := hm hmm; have := tot_bound h hp.inv; omega
    | false =>
      subst hmm
      obtain ⟨d1, d2⟩ := hp.done h
      refine ⟨ins', outs', Ev.step (fun K k => rfl) (Ev.t rfl ?_), ⟨r1.l, fun k hk => by rw [← d1 k hk]; exact r1.r k hk⟩, ⟨r2.l, fun k hk => by rw [← d2 k hk]; exact r2.r k hk⟩⟩
      simp only [hw]
      exact Ev.bind (Ev.loop e) (Ev.step (fun K k => rfl) (Ev.f rfl (Ev.some _)))
  | succ B ih =>
    intro ins outs I O hB hi hI hO
    have hw : w64 ((c.Blocks.length : Int) - 1) = (c.Blocks.length : Int) - 1 := w64_id (by omega) (by omega)
    obtain ⟨m', ins', outs', I', O', e, hp, hm, r1, r2⟩ := analyze_l3 h (I0 := I) c.Blocks.length false ins outs I O (Nat.le_refl _) ⟨hi, Nat.le_refl _, fun _ => ⟨fun _ _ => rfl, fun k h1 h2 => by omega⟩⟩ (fun h => by cases h) hI hO
    cases hmm : m' with
    | true =>
      obtain ⟨i2, o2, e2, h2⟩ := ih ins' outs' I' O' (by have := hm hmm; omega) hp.inv r1 r2
      subst hmm
      refine ⟨i2, o2, Ev.step (fun K k => rfl) (Ev.t rfl ?_), h2⟩
      simp only [hw]
      exact Ev.bind (Ev.loop e) e2
    | false =>
      subst hmm
      obtain ⟨d1, d2⟩ := hp.done h
      refine ⟨ins', outs', Ev.step (fun K k => rfl) (Ev.t rfl ?_), ⟨r1.l, fun k hk => by rw [← d1 k hk]; exact r1.r k hk⟩, ⟨r2.l, fun k hk => by rw [← d2 k hk]; exact r2.r k hk⟩⟩
      simp only [hw]
      exact Ev.bind (Ev.loop e) (Ev.step (fun K k => rfl) (Ev.f rfl (Ev.some _)))
theorem analyze_l1 {c : VFunc} (h : Vd c) {l2 : List (List Int)} (hl : l2.length = c.Blocks.length) {ws : List Int} (he : liveness_empty c.Regs = some ws) : ∀ (n j : Nat) (outs ins : List (List Int)), n + j = c.Blocks.length → outs.length = c.Blocks.length → ins.length = c.Blocks.length → (∀ i, i < j → outs[i]? = some ws ∧ ins[i]? = some ws) →
    ∃ outs' ins', Ev (fun K k => liveness_analyze_l1 K c l2 k ((j : Int), outs, ins)) (outs', ins') ∧ outs'.length = c.Blocks.length ∧ ins'.length = c.Blocks.length ∧ ∀ i, i < c.Blocks.length → outs'[i]? = some ws ∧ ins'[i]? = some ws := by
  have hb1 := h.h.b1
  intro n
  induction n with
  | zero =>
    intro j outs ins hn ho hi hall
    refine ⟨outs, ins, Ev.step (fun K k => rfl) (Ev.f ?_ (Ev.some _)), ho, hi, fun i hlt => hall i (by omega)⟩
    simp [hl]; omega
  | succ n ih =>
    intro j outs ins hn ho hi hall
    have hw : w64 ((j : Int) + 1) = ((j + 1 : Nat) : Int) := by rw [w64_id (by omega) (by omega)]; simp
    obtain ⟨o2, i2, e, h2⟩ := ih (j + 1) (outs.set j ws) (ins.set j ws) (by omega) (by simpa using ho) (by simpa using hi) fun i hlt => by
      by_cases q : i = j
      · subst q
        exact ⟨List.getElem?_set_self (by omega), List.getElem?_set_self (by omega)⟩
      · rw [List.getElem?_set_ne (Ne.symm q), List.getElem?_set_ne (Ne.symm q)]
        exact hall i (by omega)
    refine ⟨o2, i2, Ev.step (fun K k => rfl) (Ev.t (by simp [hl]; omega) (Ev.bindO (idx_get (l := ins) (i := j) (by omega)) (Ev.bindO he (Ev.bindO he (Ev.bindO (idx_get (l := outs) (i := j) (by omega)) ?_))))), h2⟩
    show Ev (fun K k => liveness_analyze_l1 K c l2 k (w64 ((j : Int) + 1), outs.set (j : Int).toNat ws, ins.set (j : Int).toNat ws)) _
    rw [hw]; exact e
theorem ev_analyze {c : VFunc} (h : Vd c) : ∃ ins outs, Ev (fun K _ => liveness_analyze K c) (ins, outs) ∧ RepS c.Blocks.length (nw c.Regs) ins (LI c) ∧ RepS c.Blocks.length (nw c.Regs) outs (LO c) := by
  have hb1 := h.h.b1
  obtain ⟨ws, he, hr⟩ := empty_ok h.h.r0 h.h.r1
  have hl : (List.replicate c.Blocks.length ([] : List Int)).length = c.Blocks.length := by simp
  obtain ⟨o1, i1, e1, h1, h2, h3⟩ := analyze_l1 h hl he c.Blocks.length 0 _ _ (by omega) hl hl fun i hi => by omega
  obtain ⟨i2, o2, e2, r1, r2⟩ := analyze_l2 h 3000000 i1 o1 (fun _ => []) (fun _ => []) (by omega) (Inv.start c) ⟨h2, fun k hk => ⟨ws, (h3 k hk).2, hr⟩⟩ ⟨h1, fun k hk => ⟨ws, (h3 k hk).1, hr⟩⟩
  refine ⟨i2, o2, ?_, r1, r2⟩
  unfold liveness_analyze
  have hmk : mk 24 (c.Blocks.length : Int) ([] : List Int) = some (List.replicate c.Blocks.length []) := mk_eq (by omega) (by omega)
  exact Ev.bindO hmk (Ev.bindO hmk (Ev.bind (Ev.loop e1) (Ev.bind (Ev.loop e2) (Ev.some _))))
end Go.Proofs.YtocfnpnnbmicmaaDoor.Tc
