/- The reference's LiveBlocks and LivePoints; the program's Blocks and Points. -/
import Derived.Test.YtocfnpnnbmicmaaDoorP6Rc
set_option linter.unusedVariables false
set_option linter.unusedSimpArgs false
namespace Go.Proofs.YtocfnpnnbmicmaaDoor.Tc
open Go

/-- An ascending list of registers. -/
structure RS (c : VFunc) (l : List Int) : Prop where
  s : Srt l
  r : ∀ x, x ∈ l → 0 ≤ x ∧ x < c.Regs
theorem RS.len {c : VFunc} (h : Vd c) {l : List Int} (hl : RS c l) : l.length ≤ 3000 := by
  have := srt_len (n := 3000) hl.s fun x hx => by have := hl.r x hx; have := h.h.r1; omega
  exact this
theorem RS.nil (c : VFunc) : RS c [] := ⟨List.Pairwise.nil, fun _ h => by simp at h⟩
theorem RS.uni {c : VFunc} {a b : List Int} (ha : RS c a) (hb : ∀ x, x ∈ b → 0 ≤ x ∧ x < c.Regs) : RS c (uni a b) := ⟨srt_uni ha.s, fun x hx => by
  rcases mem_uni.1 hx with e | e
  · exact ha.r x e
  · exact hb x e⟩
theorem RS.mns {c : VFunc} {a : List Int} (ha : RS c a) (b : List Int) : RS c (mns a b) := ⟨srt_mns ha.s, fun x hx => ha.r x (mem_mns.1 hx).1⟩
theorem RS.tr {c : VFunc} {v : VInstr} (hv : InsV c v) {l : List Int} (hl : RS c l) : RS c (tr v l) := (hl.mns _).uni hv.r
theorem RS.foldr {c : VFunc} {vs : List VInstr} (hv : ∀ v, v ∈ vs → InsV c v) {l : List Int} (hl : RS c l) : RS c (vs.foldr Tc.tr l) := by
  induction vs with
  | nil => exact hl
  | cons v vs ih => exact (ih fun w hw => hv w (by simp [hw])).tr (hv v (by simp))
theorem Vd.iv {c : VFunc} (h : Vd c) {k : Nat} (hk : k < c.Blocks.length) : ∀ v, v ∈ (bk c k).Instrs → InsV c v := fun v hv => h.i hk hv
theorem RS.LI {c : VFunc} (h : Vd c) (k : Nat) : RS c (LI c k) := ⟨srt_LI c k, fun x hx => ((mem_LI h).1 hx).reg h⟩
theorem RS.LO {c : VFunc} (h : Vd c) (k : Nat) : RS c (LO c k) := ⟨srt_LO c k, fun x hx => by
  obtain ⟨t, _, h2⟩ := mem_U.1 hx
  exact ((mem_LI h).1 h2).reg h⟩
/-- Live before instruction k of b when o is live at its end. -/
def lp (b : Block) (o : List Int) (k : Nat) : List Int := (b.Instrs.drop k).foldr tr (uni o (er b))
def lps (b : Block) (o : List Int) : List (List Int) := (List.range (b.Instrs.length + 1)).map (lp b o)
theorem RS.lp {c : VFunc} {b : Block} (hv : ∀ v, v ∈ b.Instrs → InsV c v) (he : EndV c b) {o : List Int} (ho : RS c o) (k : Nat) : RS c (lp b o k) := (ho.uni he.e).foldr fun v hv2 => hv v (List.mem_of_mem_drop hv2)
theorem lp_last (b : Block) (o : List Int) : lp b o b.Instrs.length = uni o (er b) := by unfold lp; rw [List.drop_length]; rfl
theorem lp_zero (b : Block) (o : List Int) : lp b o 0 = blkIn b o := rfl
theorem lp_step {b : Block} {o : List Int} {k : Nat} {v : VInstr} (h : b.Instrs[k]? = some v) : lp b o k = tr v (lp b o (k + 1)) := by
  have hlt : k < b.Instrs.length := by
    rcases Nat.lt_or_ge k b.Instrs.length with q | q
    · exact q
    · rw [List.getElem?_eq_none q] at h; cases h
  have : b.Instrs.drop k = v :: b.Instrs.drop (k + 1) := by
    rw [List.drop_eq_getElem_cons hlt]; rw [List.getElem?_eq_getElem hlt] at h; rw [Option.some.inj h]
  unfold lp; rw [this]; rfl
/-- A row filled from its end down to j. -/
def fillD (n : Nat) (f : Nat → List Int) (j : Nat) : List (List Int) := List.replicate j [] ++ (List.range' j (n + 1 - j)).map f
theorem fillD_len {n j : Nat} (f : Nat → List Int) (h : j ≤ n + 1) : (fillD n f j).length = n + 1 := by unfold fillD; simp; omega
theorem fillD_get {n j i : Nat} (f : Nat → List Int) (h : j ≤ i) (h2 : i ≤ n) : (fillD n f j)[i]? = some (f i) := by
  unfold fillD
  rw [List.getElem?_append_right (by simpa using h)]
  simp only [List.length_replicate, List.getElem?_map]
  rw [List.getElem?_range' (by omega)]
  simp; congr 1; omega
theorem fillD_set {n j : Nat} (f : Nat → List Int) (h : j ≤ n) : (fillD n f (j + 1)).set j (f j) = fillD n f j := by
  refine List.ext_getElem? fun i => ?_
  rcases Nat.lt_trichotomy i j with q | q | q
  · rw [List.getElem?_set_ne (by omega)]
    unfold fillD
    rw [List.getElem?_append_left (by simp; omega), List.getElem?_append_left (by simp; omega), List.getElem?_replicate, List.getElem?_replicate]
    rw [if_pos (by omega), if_pos q]
  · subst q
    rw [List.getElem?_set_self (by rw [fillD_len f (by omega)]; omega), fillD_get f (Nat.le_refl _) h]
  · rw [List.getElem?_set_ne (by omega)]
    rcases Nat.lt_or_ge n i with q2 | q2
    · rw [List.getElem?_eq_none (by rw [fillD_len f (by omega)]; omega), List.getElem?_eq_none (by rw [fillD_len f (by omega)]; omega)]
    · rw [fillD_get f (by omega) q2, fillD_get f (by omega) q2]
theorem fillD_zero (n : Nat) (f : Nat → List Int) : fillD n f 0 = (List.range (n + 1)).map f := by
  unfold fillD; simp [List.range_eq_range']
theorem fillD_top (n : Nat) (f : Nat → List Int) : (List.replicate (n + 1) ([] : List Int)).set n (f n) = fillD n f n := by
  rw [← fillD_set f (Nat.le_refl n)]
  unfold fillD; simp

theorem ev_livePoints {c : VFunc} (h : Vd c) {b : Block} (hb : b.Instrs.length ≤ 2199023255552) (hv : ∀ v, v ∈ b.Instrs → InsV c v) (he : EndV c b) {o : List Int} (ho : RS c o) : Ev (fun K _ => ref32_livePoints K b o) (lps b o) := by
  have loop : ∀ j, j ≤ b.Instrs.length → Ev (fun K k => ref32_livePoints_l1 K b k ((j : Int) - 1, fillD b.Instrs.length (lp b o) j)) (lps b o) := by
    intro j
    induction j with
    | zero =>
      intro _
      refine Ev.step (fun K k => rfl) (Ev.f (by simp) ((Ev.some _).cast ?_))
      exact fillD_zero _ _
    | succ j ih =>
      intro hj
      have hlt : j < b.Instrs.length := hj
      have hidx : ((j + 1 : Nat) : Int) - 1 = (j : Int) := by omega
      have hw : w64 ((j : Int) + 1) = ((j + 1 : Nat) : Int) := by rw [w64_id (by omega) (by omega)]; simp
      have hw2 : w64 ((j : Int) - 1) = (j : Int) - 1 := w64_id (by omega) (by omega)
      have hgv : b.Instrs[j]? = some b.Instrs[j] := List.getElem?_eq_getElem hlt
      have hvv := hv _ (List.mem_of_getElem? hgv)
      have r1 := (RS.lp hv he ho (j + 1)).len h
      have r2 := ((RS.lp hv he ho (j + 1)).mns (wr b.Instrs[j])).len h
      have hwl : (wr b.Instrs[j]).length ≤ 1 := by unfold wr; split <;> simp
      have hrl : (rd b.Instrs[j]).length ≤ 3000 := RS.len h ⟨srt_rd _, hvv.r⟩
      refine Ev.step (fun K k => rfl) (Ev.t (by simp) ?_)
      simp only [hidx, hw, hw2]
      refine Ev.bindO (idx_eq (fillD_get _ (Nat.le_refl _) (by omega))) (Ev.bindO (idx_eq hgv) (Ev.bindO (rwrites _) (Ev.bind (ev_minus (by unfold Sm; omega) (by unfold Sm; omega)) (Ev.bindO (idx_eq hgv) (Ev.bind (ev_rreads (by have := hvv.n; omega)) (Ev.bind (ev_union (by unfold Sm; omega) (by unfold Sm; omega) (by omega)) (Ev.bindO (idx_get (i := j) (by rw [fillD_len _ (by omega)]; omega)) ?_)))))))
      have e : uni (mns (lp b o (j + 1)) (wr b.Instrs[j])) (rd b.Instrs[j]) = lp b o j := (lp_step hgv).symm
      simp only [Int.toNat_natCast, e, fillD_set _ (show j ≤ b.Instrs.length by omega)]
      exact ih (by omega)
  have hw : w64 ((b.Instrs.length : Int) + 1) = ((b.Instrs.length + 1 : Nat) : Int) := by rw [w64_id (by omega) (by omega)]; simp
  have hw2 : w64 ((b.Instrs.length : Int) - 1) = (b.Instrs.length : Int) - 1 := w64_id (by omega) (by omega)
  have hol := ho.len h
  have hel : (er b).length ≤ 1 := by unfold er; split <;> simp
  unfold ref32_livePoints
  rw [hw, hw2]
  refine Ev.bindO (mk_eq (by omega) (by omega)) (Ev.bindO (rendreads b) (Ev.bind (ev_union (by unfold Sm; omega) (by unfold Sm; omega) (by omega)) (Ev.bindO (idx_get (i := b.Instrs.length) (by simp)) ?_)))
  rw [Int.toNat_natCast, ← lp_last, fillD_top]
  exact Ev.bind (Ev.loop (loop _ (Nat.le_refl _))) (Ev.some _)

/-- Rows that are the sets I themselves. -/
structure RepL (n : Nat) (rows : List (List Int)) (I : Nat → List Int) : Prop where
  l : rows.length = n
  r : ∀ k, k < n → rows[k]? = some (I k)
theorem RepL.set {n : Nat} {rows : List (List Int)} {I : Nat → List Int} (h : RepL n rows I) {k : Nat} (hk : k < n) (l : List Int) : RepL n (rows.set k l) (fup I k l) := ⟨by rw [List.length_set]; exact h.l, fun j hj => by
  by_cases e : j = k
  · subst e; rw [fup_self]; exact List.getElem?_set_self (by rw [h.l]; exact hk)
  · rw [fup_ne _ _ e, List.getElem?_set_ne (Ne.symm e)]; exact h.r j hj⟩
theorem RepL.eq {n : Nat} {rows : List (List Int)} {I : Nat → List Int} (h : RepL n rows I) : rows = (List.range n).map I := by
  refine List.ext_getElem? fun j => ?_
  rcases Nat.lt_or_ge j n with q | q
  · rw [h.r j q, List.getElem?_map, List.getElem?_range q]; rfl
  · rw [List.getElem?_eq_none (by rw [h.l]; exact q), List.getElem?_eq_none (by simpa using q)]
theorem rb_l3 {c : VFunc} (h : Vd c) {I : Nat → List Int} (hI : ∀ k, k < c.Blocks.length → RS c (I k)) {s : Bool × Int × List (List Int) × List (List Int)} {r : List Int} (hr : ∀ t, t ∈ r → 0 ≤ t ∧ t < (c.Blocks.length : Int)) (hr2 : r.length ≤ 2) (hs : RepL c.Blocks.length s.2.2.2 I) : ∀ (q p : List Int) (a : List Int), r = p ++ q → RS c a → Ev (fun K k => ref32_LiveBlocks_l3 K s r k (a, (p.length : Int))) (q.foldl (fun a t => uni a (I t.toNat)) a) := by
  intro q
  induction q with
  | nil =>
    intro p a he _
    refine Ev.step (fun K k => rfl) (Ev.f ?_ (Ev.some _))
    subst he; simp
  | cons t q ih =>
    intro p a he ha
    have hlt : (p.length : Int) < (r.length : Int) := by subst he; simp; omega
    have hg : idx r (p.length : Int) = some t := idx_eq (by subst he; simp)
    have hw : w64 ((p.length : Int) + 1) = ((p ++ [t]).length : Int) := by
      rw [w64_id (by omega) (by omega)]; simp
    have ht := hr t (by subst he; simp)
    have hgt : idx s.2.2.2 t = some (I t.toNat) := by
      have := idx_eq (hs.r t.toNat (by omega))
      rwa [show ((t.toNat : Nat) : Int) = t by omega] at this
    have hi := hI t.toNat (by omega)
    have l1 := ha.len h
    have l2 := hi.len h
    refine Ev.step (fun K k => rfl) (Ev.t (by simpa using hlt) (Ev.bindO hg (Ev.bindO hgt (Ev.bind (ev_union (a := a) (b := I t.toNat) (by unfold Sm; omega) (by unfold Sm; omega) (by omega)) ?_))))
    show Ev (fun K k => ref32_LiveBlocks_l3 K s r k (uni a (I t.toNat), w64 ((p.length : Int) + 1))) _
    rw [hw]
    exact ih (p ++ [t]) _ (by subst he; simp) (ha.uni hi.r)
theorem Inv.rs {c : VFunc} (h : Vd c) {I O : Nat → List Int} (hi : Inv c I O) {k : Nat} (hk : k < c.Blocks.length) : RS c (I k) := ⟨hi.si k hk, fun x hx => (hi.li k hk x hx).reg h⟩
theorem Inv.rsU {c : VFunc} (h : Vd c) {I O : Nat → List Int} (hi : Inv c I O) {k : Nat} (hk : k < c.Blocks.length) : RS c (U (bk c k) I) := ⟨srt_U _ _, fun x hx => hi.regU h hk hx⟩
theorem rb_l2 {c : VFunc} (h : Vd c) {I0 : Nat → List Int} {tO : Nat} : ∀ (n : Nat) (m : Bool) (ins outs : List (List Int)) (I O : Nat → List Int), n ≤ c.Blocks.length → Pass c I0 I O m n → (m = true → tot c.Blocks.length I0 + tO < tot c.Blocks.length I + tot c.Blocks.length O) → tO ≤ tot c.Blocks.length O → RepL c.Blocks.length ins I → RepL c.Blocks.length outs O →
    ∃ m' ins' outs' I' O', Ev (fun K k => ref32_LiveBlocks_l2 K c k (m, (n : Int) - 1, outs, ins)) (m', outs', ins') ∧ Pass c I0 I' O' m' 0 ∧ (m' = true → tot c.Blocks.length I0 + tO < tot c.Blocks.length I' + tot c.Blocks.length O') ∧ RepL c.Blocks.length ins' I' ∧ RepL c.Blocks.length outs' O' := by
  have hb1 := h.h.b1
  intro n
  induction n with
  | zero =>
    intro m ins outs I O hn hp hm _ hI hO
    exact ⟨m, ins, outs, I, O, Ev.step (fun K k => rfl) (Ev.f (by simp) (Ev.some _)), hp, hm, hI, hO⟩
  | succ n ih =>
    intro m ins outs I O hn hp hm hto hI hO
    have hk : n < c.Blocks.length := hn
    have hidx : ((n + 1 : Nat) : Int) - 1 = (n : Int) := by omega
    have hw : w64 ((n : Int) - 1) = (n : Int) - 1 := w64_id (by omega) (by omega)
    have e1 := rb_l3 h (I := I) (fun k hk => hp.inv.rs h hk) (s := (m, (n : Int), outs, ins)) (h.e hk).s (su_len _) hI (su (bk c n)) [] [] rfl (RS.nil c)
    have hlen := h.len hk
    let o := U (bk c n) I
    let i := blkIn (bk c n) (U (bk c n) I)
    let d1 : Bool := ((o.length : Int) != ((O n).length : Int))
    let d2 : Bool := ((i.length : Int) != ((I n).length : Int))
    have sI := srt_sub_len (hp.inv.si n hk) (srt_blkIn (srt_U (bk c n) I)) (hp.inv.ii n hk)
    have sO := srt_sub_len (hp.inv.so n hk) (srt_U (bk c n) I) (hp.inv.oo n hk)
    have tI := tot_fup I hk i
    have tO1 := tot_fup O hk o
    have hp' : Pass c I0 _ _ (m || d1 || d2) n := hp.next h hk (m' := m || d1 || d2) fun hf => by
      simp only [Bool.or_eq_false_iff] at hf
      refine ⟨hf.1.1, (sI.2 ?_).symm⟩
      have := hf.2
      have : (i.length : Int) = ((I n).length : Int) := by simpa [d2] using this
      show (I n).length = i.length
      omega
    have hm' : (m || d1 || d2) = true → tot c.Blocks.length I0 + tO < tot c.Blocks.length (fup I n i) + tot c.Blocks.length (fup O n o) := fun hf => by
      have sI1 : (I n).length ≤ i.length := sI.1
      have sO1 : (O n).length ≤ o.length := sO.1
      have hle := hp.le
      simp only [Bool.or_eq_true] at hf
      rcases hf with (hf | hf) | hf
      · have := hm hf; omega
      · have : (o.length : Int) ≠ ((O n).length : Int) := by simpa [d1] using hf
        omega
      · have : (i.length : Int) ≠ ((I n).length : Int) := by simpa [d2] using hf
        omega
    have sO1 : (O n).length ≤ o.length := sO.1
    have hto' : tO ≤ tot c.Blocks.length (fup O n o) := by omega
    obtain ⟨m', ins', outs', I', O', e5, h5⟩ := ih (m || d1 || d2) (ins.set n i) (outs.set n o) _ _ (by omega) hp' hm' hto' (hI.set hk i) (hO.set hk o)
    refine ⟨m', ins', outs', I', O', Ev.step (fun K k => rfl) (Ev.t (by simp) ?_), h5⟩
    simp only [hidx]
    refine Ev.bindO (bk_idx hk) (Ev.bind (ev_rsucc _) (Ev.bind (Ev.loop e1) (Ev.bindO (bk_idx hk) (Ev.bind (ev_livePoints h (h.len hk) (h.iv hk) (h.e hk) (hp.inv.rsU h hk)) (Ev.bindO (x := i) (idx_eq (i := 0) ?_) (Ev.bind (x := m || d1) ?_ (Ev.bind (x := m || d1 || d2) ?_ (Ev.bindO (idx_eq (hI.r n hk)) (Ev.bindO (idx_eq (hO.r n hk)) ?_)))))))))
    · unfold lps
      rw [List.getElem?_map, List.getElem?_range (by omega)]; rfl
    · cases m with
      | true => exact Ev.t rfl (Ev.some _)
      | false => exact Ev.f rfl (Ev.bindO (idx_eq (hO.r n hk)) (Ev.some _))
    · generalize (m || d1) = q
      cases q with
      | true => exact Ev.t rfl (Ev.some _)
      | false => exact Ev.f rfl (Ev.bindO (idx_eq (hI.r n hk)) (Ev.some _))
    · rw [hw]; exact e5
theorem rb_l1 {c : VFunc} (h : Vd c) : ∀ (B : Nat) (ins outs : List (List Int)) (I O : Nat → List Int), 6000000 ≤ tot c.Blocks.length I + tot c.Blocks.length O + B → Inv c I O → RepL c.Blocks.length ins I → RepL c.Blocks.length outs O →
    Ev (fun K k => ref32_LiveBlocks_l1 K c k (true, outs, ins)) ((List.range c.Blocks.length).map (LO c), (List.range c.Blocks.length).map (LI c)) := by
  have hb1 := h.h.b1
  have fin : ∀ (ins outs : List (List Int)) (I O : Nat → List Int), (∀ k, k < c.Blocks.length → I k = LI c k) ∧ (∀ k, k < c.Blocks.length → O k = LO c k) → RepL c.Blocks.length ins I → RepL c.Blocks.length outs O → (outs, ins) = ((List.range c.Blocks.length).map (LO c), (List.range c.Blocks.length).map (LI c)) := by
    intro ins outs I O hd r1 r2
    rw [RepL.eq (I := LI c) ⟨r1.l, fun k hk => by rw [← hd.1 k hk]; exact r1.r k hk⟩, RepL.eq (I := LO c) ⟨r2.l, fun k hk => by rw [← hd.2 k hk]; exact r2.r k hk⟩]
  have bound : ∀ {I O : Nat → List Int}, Inv c I O → tot c.Blocks.length I + tot c.Blocks.length O ≤ 6000000 := fun {I O} hi => by
    have h1 := tot_bound h hi
    have h2 := tot_le (n := c.Blocks.length) (m := 3000) (I := O) fun k hk => by have := hi.lenO h hk; have := h.h.r1; omega
    omega
  have hw : w64 ((c.Blocks.length : Int) - 1) = (c.Blocks.length : Int) - 1 := w64_id (by omega) (by omega)
  intro B
  induction B with
  | zero =>
    intro ins outs I O hB hi hI hO
    obtain ⟨m', ins', outs', I', O', e, hp, hm, r1, r2⟩ := rb_l2 h (I0 := I) (tO := tot c.Blocks.length O) c.Blocks.length false ins outs I O (Nat.le_refl _) ⟨hi, Nat.le_refl _, fun _ => ⟨fun _ _ => rfl, fun k h1 h2 => by omega⟩⟩ (fun h => by cases h) (Nat.le_refl _) hI hO
    cases hmm : m' with
    | true => have := hm hmm; have := bound hp.inv; omega
    | false =>
      subst hmm
      refine Ev.step (fun K k => rfl) (Ev.t rfl ?_)
      simp only [hw]
      exact Ev.bind (Ev.loop e) (Ev.step (fun K k => rfl) (Ev.f rfl ((Ev.some _).cast (fin _ _ _ _ (hp.done h) r1 r2))))
  | succ B ih =>
    intro ins outs I O hB hi hI hO
    obtain ⟨m', ins', outs', I', O', e, hp, hm, r1, r2⟩ := rb_l2 h (I0 := I) (tO := tot c.Blocks.length O) c.Blocks.length false ins outs I O (Nat.le_refl _) ⟨hi, Nat.le_refl _, fun _ => ⟨fun _ _ => rfl, fun k h1 h2 => by omega⟩⟩ (fun h => by cases h) (Nat.le_refl _) hI hO
    cases hmm : m' with
    | true =>
      have e2 := ih ins' outs' I' O' (by have := hm hmm; omega) hp.inv r1 r2
      subst hmm
      refine Ev.step (fun K k => rfl) (Ev.t rfl ?_)
      simp only [hw]
      exact Ev.bind (Ev.loop e) e2
    | false =>
      subst hmm
      refine Ev.step (fun K k => rfl) (Ev.t rfl ?_)
      simp only [hw]
      exact Ev.bind (Ev.loop e) (Ev.step (fun K k => rfl) (Ev.f rfl ((Ev.some _).cast (fin _ _ _ _ (hp.done h) r1 r2))))
noncomputable def LIs (c : VFunc) : List (List Int) := (List.range c.Blocks.length).map (LI c)
noncomputable def LOs (c : VFunc) : List (List Int) := (List.range c.Blocks.length).map (LO c)
theorem LIs_get {c : VFunc} {k : Nat} (h : k < c.Blocks.length) : (LIs c)[k]? = some (LI c k) := by unfold LIs; rw [List.getElem?_map, List.getElem?_range h]; rfl
theorem LOs_get {c : VFunc} {k : Nat} (h : k < c.Blocks.length) : (LOs c)[k]? = some (LO c k) := by unfold LOs; rw [List.getElem?_map, List.getElem?_range h]; rfl
theorem LIs_len (c : VFunc) : (LIs c).length = c.Blocks.length := by simp [LIs]
theorem LOs_len (c : VFunc) : (LOs c).length = c.Blocks.length := by simp [LOs]
theorem ev_rblocks {c : VFunc} (h : Vd c) : Ev (fun K _ => ref32_LiveBlocks K c) (LIs c, LOs c) := by
  have hb1 := h.h.b1
  have hmk : mk 24 (c.Blocks.length : Int) ([] : List Int) = some (List.replicate c.Blocks.length []) := mk_eq (by omega) (by omega)
  have hrep : RepL c.Blocks.length (List.replicate c.Blocks.length ([] : List Int)) (fun _ => []) := ⟨by simp, fun k hk => by rw [List.getElem?_replicate, if_pos hk]⟩
  have e := rb_l1 h 6000000 _ _ _ _ (by omega) (Inv.start c) hrep hrep
  unfold ref32_LiveBlocks
  refine Ev.bind (ev_rvalid h.sm) (Ev.f (by rw [h.v]; rfl) (Ev.bindO hmk (Ev.bindO hmk (Ev.bind (Ev.loop e) ((Ev.some _).cast rfl)))))
theorem ev_rblocks0 {c : VFunc} (h : SmF c) (hv : validB c = false) : Ev (fun K _ => ref32_LiveBlocks K c) ([], []) := by
  unfold ref32_LiveBlocks
  exact Ev.bind (ev_rvalid h) (Ev.t (by rw [hv]; rfl) (Ev.some _))
noncomputable def LPs (c : VFunc) (k : Nat) : List (List Int) := lps (bk c k) (LO c k)
theorem ev_rpoints {c : VFunc} (h : Vd c) {k : Nat} (hk : k < c.Blocks.length) : Ev (fun K _ => ref32_LivePoints K c (k : Int)) (LPs c k) := by
  unfold ref32_LivePoints
  refine Ev.bind (ev_rvalid h.sm) (Ev.f ?_ (Ev.bind (ev_rblocks h) (Ev.bindO (bk_idx hk) (Ev.bindO (idx_eq (LOs_get hk)) (Ev.bind (ev_livePoints h (h.len hk) (h.iv hk) (h.e hk) (RS.LO h k)) (Ev.some _))))))
  rw [h.v]; simp; omega
theorem ev_rpoints0 {c : VFunc} (h : SmF c) {k : Int} (hk : ¬ (validB c = true ∧ 0 ≤ k ∧ k < (c.Blocks.length : Int))) : Ev (fun K _ => ref32_LivePoints K c k) [] := by
  unfold ref32_LivePoints
  refine Ev.bind (ev_rvalid h) (Ev.t ?_ (Ev.some _))
  cases hv : validB c with
  | false => rfl
  | true => simp; simp [hv] at hk; omega

/-! ### The program -/
theorem ev_pblocks {c : VFunc} (h : Vd c) : Ev (fun K _ => liveness_Blocks K c) (LIs c, LOs c) := by
  have hb1 := h.h.b1
  have hnw := nw_le h.h.r1
  obtain ⟨ins, outs, e, r1, r2⟩ := ev_analyze h
  have loop : ∀ (n j : Nat), j + n = c.Blocks.length → Ev (fun K k => liveness_Blocks_l1 K (ins, outs) k ((j : Int), (List.range j).map (LO c), (List.range j).map (LI c))) (LOs c, LIs c) := by
    intro n
    induction n with
    | zero =>
      intro j hj
      have : j = c.Blocks.length := by omega
      subst this
      refine Ev.step (fun K k => rfl) (Ev.f ?_ (Ev.some _))
      simp [r1.l]
    | succ n ih =>
      intro j hj
      have hk : j < c.Blocks.length := by omega
      have hw : w64 ((j : Int) + 1) = ((j + 1 : Nat) : Int) := by rw [w64_id (by omega) (by omega)]; simp
      obtain ⟨wi, hi1, hi2⟩ := r1.r j hk
      obtain ⟨wo, ho1, ho2⟩ := r2.r j hk
      refine Ev.step (fun K k => rfl) (Ev.t (by simp [r1.l]; omega) (Ev.bindO (idx_eq hi1) (Ev.bind (ev_list hnw hi2) (Ev.bindO (app_eq (by simp; omega) (by simp; omega)) (Ev.bindO (idx_eq ho1) (Ev.bind (ev_list hnw ho2) (Ev.bindO (app_eq (by simp; omega) (by simp; omega)) ?_)))))))
      simp only [hw]
      have := ih (j + 1) (by omega)
      simpa only [List.range_succ, List.map_append, List.map_cons, List.map_nil] using this
  unfold liveness_Blocks
  exact Ev.bind (ev_vvalid h.sm) (Ev.f (by rw [h.v]; rfl) (Ev.bind e (Ev.bind (Ev.loop (loop c.Blocks.length 0 (by omega))) (Ev.some _))))
theorem ev_pblocks0 {c : VFunc} (h : SmF c) (hv : validB c = false) : Ev (fun K _ => liveness_Blocks K c) ([], []) := by
  unfold liveness_Blocks
  exact Ev.bind (ev_vvalid h) (Ev.t (by rw [hv]; rfl) (Ev.some _))
theorem ev_ppoints {c : VFunc} (h : Vd c) {k : Nat} (hk : k < c.Blocks.length) : Ev (fun K _ => liveness_Points K c (k : Int)) (LPs c k) := by
  have hb1 := h.h.b1
  have hnw := nw_le h.h.r1
  have hlen := h.len hk
  obtain ⟨ins, outs, e, r1, r2⟩ := ev_analyze h
  obtain ⟨wo, ho1, ho2⟩ := r2.r k hk
  obtain ⟨w1, e1, q1⟩ := addTerm_ok h (h.e hk) ho2
  have loop : ∀ (j : Nat) (ws : List Int), j ≤ (bk c k).Instrs.length → Rep (nw c.Regs) ws (lp (bk c k) (LO c k) j) → ∃ ws', Ev (fun K n => liveness_Points_l1 K (bk c k) n ((j : Int) - 1, fillD (bk c k).Instrs.length (lp (bk c k) (LO c k)) j, ws)) (LPs c k, ws') := by
    intro j
    induction j with
    | zero =>
      intro ws _ _
      refine ⟨ws, Ev.step (fun K k => rfl) (Ev.f (by simp) ((Ev.some _).cast ?_))⟩
      rw [fillD_zero]; rfl
    | succ j ih =>
      intro ws hj hr
      have hlt : j < (bk c k).Instrs.length := hj
      have hidx : ((j + 1 : Nat) : Int) - 1 = (j : Int) := by omega
      have hw2 : w64 ((j : Int) - 1) = (j : Int) - 1 := w64_id (by omega) (by omega)
      have hgv : (bk c k).Instrs[j]? = some (bk c k).Instrs[j] := List.getElem?_eq_getElem hlt
      obtain ⟨w2, e2, q2⟩ := transfer_ok h (h.i hk (List.mem_of_getElem? hgv)) hr
      rw [← lp_step hgv] at q2
      obtain ⟨w3, e3⟩ := ih w2 (by omega) q2
      refine ⟨w3, Ev.step (fun K k => rfl) (Ev.t (by simp) ?_)⟩
      simp only [hidx, hw2]
      refine Ev.bindO (idx_eq hgv) (Ev.bind e2 (Ev.bind (ev_list hnw q2) (Ev.bindO (idx_get (i := j) (by rw [fillD_len _ (by omega)]; omega)) ?_)))
      simp only [Int.toNat_natCast, fillD_set _ (show j ≤ (bk c k).Instrs.length by omega)]
      exact e3
  have hw : w64 (((bk c k).Instrs.length : Int) + 1) = (((bk c k).Instrs.length + 1 : Nat) : Int) := by rw [w64_id (by omega) (by omega)]; simp
  have hw2 : w64 (((bk c k).Instrs.length : Int) - 1) = ((bk c k).Instrs.length : Int) - 1 := w64_id (by omega) (by omega)
  obtain ⟨w3, e3⟩ := loop _ w1 (Nat.le_refl _) (by rw [lp_last]; exact q1)
  unfold liveness_Points
  refine Ev.bind (ev_vvalid h.sm) (Ev.f ?_ (Ev.bind e (Ev.bindO (bk_idx hk) (Ev.bindO (idx_eq ho1) (Ev.bindO (app_nil (by rw [ho2.w.1]; omega) (by rw [ho2.w.1]; omega)) (Ev.bindO e1 ?_))))))
  · rw [h.v]; simp; omega
  · rw [hw, hw2]
    refine Ev.bindO (mk_eq (by omega) (by omega)) (Ev.bind (ev_list hnw q1) (Ev.bindO (idx_get (i := (bk c k).Instrs.length) (by simp)) ?_))
    rw [Int.toNat_natCast, ← lp_last, fillD_top]
    exact Ev.bind (Ev.loop e3) (Ev.some _)
theorem ev_ppoints0 {c : VFunc} (h : SmF c) {k : Int} (hk : ¬ (validB c = true ∧ 0 ≤ k ∧ k < (c.Blocks.length : Int))) : Ev (fun K _ => liveness_Points K c k) [] := by
  unfold liveness_Points
  refine Ev.bind (ev_vvalid h) (Ev.t ?_ (Ev.some _))
  cases hv : validB c with
  | false => rfl
  | true => simp; simp [hv] at hk; omega
end Go.Proofs.YtocfnpnnbmicmaaDoor.Tc
