/- Bit sets: words of 64 bits against ascending lists. -/
import Derived.Test.YtocfnpnnbmicmaaDoorP3Rc
set_option linter.unusedVariables false
set_option linter.unusedSimpArgs false
namespace Go.Proofs.YtocfnpnnbmicmaaDoor.Tc
open Go

abbrev U64 (w : Int) : Prop := 0 ≤ w ∧ w < 18446744073709551616
def tb (w : Int) (i : Nat) : Bool := w.toNat.testBit i
theorem u64_id {n : Int} (h : U64 n) : IntKind.u64.wrap n = n := by
  unfold IntKind.wrap
  have e : (2 ^ IntKind.u64.bits : Int) = 18446744073709551616 := by decide
  simp only [e, IntKind.signed, Bool.false_and]
  exact Int.emod_eq_of_lt h.1 h.2
theorem u64_nat {n : Nat} (h : n < 18446744073709551616) : IntKind.u64.wrap (n : Int) = n := u64_id ⟨by omega, by omega⟩
theorem ofInt_nat {w : Int} (h : U64 w) : (BitVec.ofInt 64 w).toNat = w.toNat := by
  rw [BitVec.toNat_ofInt]
  have : w % (2 ^ 64 : Nat) = w := Int.emod_eq_of_lt h.1 (by have := h.2; norm_cast)
  rw [this]
theorem u64_lt {w : Int} (h : U64 w) : w.toNat < 2 ^ 64 := by have := h.1; have := h.2; omega
theorem tb_ge {w : Int} (h : U64 w) {i : Nat} (hi : 64 ≤ i) : tb w i = false := Nat.testBit_lt_two_pow (Nat.lt_of_lt_of_le (u64_lt h) (Nat.pow_le_pow_right (by omega) hi))
theorem tb_zero (i : Nat) : tb 0 i = false := by simp [tb]
theorem bOr_eq {x y : Int} (hx : U64 x) (hy : U64 y) : bOr .u64 x y = ((x.toNat ||| y.toNat : Nat) : Int) := by
  unfold bOr
  show IntKind.u64.wrap ((BitVec.ofInt 64 x ||| BitVec.ofInt 64 y).toNat : Int) = _
  rw [BitVec.toNat_or, ofInt_nat hx, ofInt_nat hy]
  exact u64_nat (Nat.or_lt_two_pow (u64_lt hx) (u64_lt hy))
theorem u64_or {x y : Int} (hx : U64 x) (hy : U64 y) : U64 (bOr .u64 x y) := by
  rw [bOr_eq hx hy]
  have := Nat.or_lt_two_pow (u64_lt hx) (u64_lt hy)
  exact ⟨by omega, by omega⟩
theorem tb_or {x y : Int} (hx : U64 x) (hy : U64 y) (i : Nat) : tb (bOr .u64 x y) i = (tb x i || tb y i) := by
  rw [bOr_eq hx hy]; simp [tb, Nat.testBit_or]
theorem bAndNot_eq {x y : Int} : bAndNot .u64 x y = (((BitVec.ofInt 64 x &&& ~~~ BitVec.ofInt 64 y).toNat : Nat) : Int) := by
  unfold bAndNot
  exact u64_nat (BitVec.isLt _)
theorem u64_andNot {x y : Int} : U64 (bAndNot .u64 x y) := by
  rw [bAndNot_eq]
  have := (BitVec.ofInt 64 x &&& ~~~ BitVec.ofInt 64 y).isLt
  exact ⟨by omega, by omega⟩
theorem getLsb {x : Int} (hx : U64 x) (i : Nat) : (BitVec.ofInt 64 x).getLsbD i = tb x i := by
  rw [BitVec.getLsbD, ofInt_nat hx]; rfl
theorem tb_andNot {x y : Int} (hx : U64 x) (hy : U64 y) (i : Nat) : tb (bAndNot .u64 x y) i = (tb x i && !tb y i) := by
  rw [bAndNot_eq]
  show (BitVec.ofInt 64 x &&& ~~~ BitVec.ofInt 64 y).getLsbD i = _
  rw [BitVec.getLsbD_and, BitVec.getLsbD_not, getLsb hx, getLsb hy]
  by_cases h : i < 64
  · simp [h]
  · simp [h, tb_ge hx (by omega : 64 ≤ i)]
theorem tb_ext {x y : Int} (hx : 0 ≤ x) (hy : 0 ≤ y) (h : ∀ i, tb x i = tb y i) : x = y := by
  have : x.toNat = y.toNat := Nat.eq_of_testBit_eq h
  omega
theorem bShl_one {j : Nat} (h : j < 64) : bShl .u64 1 (j : Int) = ((2 ^ j : Nat) : Int) := by
  unfold bShl
  have e : min (j : Int).toNat IntKind.u64.bits = j := by
    have : IntKind.u64.bits = 64 := rfl
    rw [this]; omega
  rw [e]
  have : (1 * 2 ^ j : Int) = ((2 ^ j : Nat) : Int) := by push_cast; omega
  rw [this]
  exact u64_nat (Nat.pow_lt_pow_right (by omega) h)
theorem u64_pow {j : Nat} (h : j < 64) : U64 ((2 ^ j : Nat) : Int) := by
  have h1 : 2 ^ j < 2 ^ 64 := Nat.pow_lt_pow_right (by omega) h
  generalize 2 ^ j = n at h1
  exact ⟨by omega, by omega⟩
theorem tb_pow (i j : Nat) : tb ((2 ^ j : Nat) : Int) i = decide (j = i) := by
  unfold tb
  rw [Int.toNat_natCast, Nat.testBit_two_pow]
theorem bShr_eq {w : Int} (h : U64 w) {b : Nat} (hb : b ≤ 64) : bShr .u64 w (b : Int) = ((w.toNat >>> b : Nat) : Int) := by
  unfold bShr
  have e : min (b : Int).toNat IntKind.u64.bits = b := by
    have : IntKind.u64.bits = 64 := rfl
    rw [this]; omega
  rw [e, Nat.shiftRight_eq_div_pow]
  obtain ⟨n, rfl⟩ : ∃ n : Nat, w = n := ⟨w.toNat, by have := h.1; omega⟩
  have e2 : (2 ^ b : Int) = ((2 ^ b : Nat) : Int) := by push_cast; rfl
  generalize 2 ^ b = m at e2 ⊢
  rw [e2, Int.fdiv_eq_ediv_of_nonneg _ (by omega)]
  simp
theorem bAnd_one {x : Int} (h : U64 x) : (bAnd .u64 x 1 == 1) = tb x 0 := by
  unfold bAnd
  have e : (BitVec.ofInt IntKind.u64.bits x &&& BitVec.ofInt IntKind.u64.bits 1).toNat = x.toNat &&& 1 := by
    show (BitVec.ofInt 64 x &&& BitVec.ofInt 64 1).toNat = _
    rw [BitVec.toNat_and, ofInt_nat h]; rfl
  rw [e, u64_nat (by have : x.toNat &&& 1 ≤ 1 := Nat.and_le_right; omega), Nat.and_one_is_mod]
  unfold tb
  rw [Nat.testBit_zero]
  have : x.toNat % 2 < 2 := Nat.mod_lt _ (by omega)
  rw [Bool.eq_iff_iff]; simp; omega

/-! ### Words -/
def W (n : Nat) (ws : List Int) : Prop := ws.length = n ∧ ∀ w, w ∈ ws → U64 w
def wb (ws : List Int) (i : Nat) : Bool := tb (ws.getD (i / 64) 0) (i % 64)
theorem W.get {n : Nat} {ws : List Int} (h : W n ws) {i : Nat} (hi : i < ws.length) : U64 ws[i] := h.2 _ (List.getElem_mem hi)
theorem W.getD {n : Nat} {ws : List Int} (h : W n ws) (i : Nat) : U64 (ws.getD i 0) := by
  rw [List.getD_eq_getElem?_getD]
  rcases Nat.lt_or_ge i ws.length with q | q
  · rw [List.getElem?_eq_getElem q]; exact h.get q
  · rw [List.getElem?_eq_none q]; exact ⟨by decide, by decide⟩
theorem W.set {n : Nat} {ws : List Int} (h : W n ws) {i : Nat} {w : Int} (hw : U64 w) : W n (ws.set i w) := ⟨by rw [List.length_set]; exact h.1, fun x hx => by
  rcases List.mem_or_eq_of_mem_set hx with q | q
  · exact h.2 x q
  · exact q ▸ hw⟩
theorem div64 {a : Int} (h0 : 0 ≤ a) (h : a < 1000000) : w64 (Int.tdiv a 64) = ((a.toNat / 64 : Nat) : Int) := by
  rw [Int.tdiv_eq_ediv_of_nonneg h0, w64_id (by omega) (by omega)]; omega
theorem mod64 {a : Int} (h0 : 0 ≤ a) : u64 (Int.tmod a 64) = ((a.toNat % 64 : Nat) : Int) := by
  rw [Int.tmod_eq_emod_of_nonneg h0]
  have : a % 64 = ((a.toNat % 64 : Nat) : Int) := by omega
  rw [this]; exact u64_nat (by omega)
/-- The words ws hold the ascending list l. -/
structure Rep (n : Nat) (ws l : List Int) : Prop where
  w : W n ws
  s : Srt l
  m : ∀ x, x ∈ l ↔ 0 ≤ x ∧ wb ws x.toNat = true
theorem Rep.lt {n : Nat} {ws l : List Int} (h : Rep n ws l) {x : Int} (hx : x ∈ l) : 0 ≤ x ∧ x < 64 * n := by
  have h1 := (h.m x).1 hx
  refine ⟨h1.1, ?_⟩
  rcases Nat.lt_or_ge (x.toNat / 64) ws.length with q | q
  · rw [h.w.1] at q; omega
  · exfalso
    have := h1.2
    unfold wb at this
    rw [List.getD_eq_getElem?_getD, List.getElem?_eq_none q] at this
    simp [tb_zero] at this
theorem Rep.len {n : Nat} {ws l : List Int} (h : Rep n ws l) : l.length ≤ 64 * n := srt_len h.s fun x hx => by have := h.lt hx; omega
theorem Rep.ext {n : Nat} {ws l m : List Int} (h : Rep n ws l) (k : Rep n ws m) : l = m := srt_ext h.s k.s fun x => (h.m x).trans (k.m x).symm
/-- The number of words for so many registers. -/
def nw (R : Int) : Nat := (R.toNat + 63) / 64
theorem empty_ok {R : Int} (h0 : 0 ≤ R) (h : R ≤ 3000) : ∃ ws, liveness_empty R = some ws ∧ Rep (nw R) ws [] := by
  refine ⟨List.replicate (nw R) 0, ?_, ⟨⟨by simp, fun w hw => ?_⟩, List.Pairwise.nil, fun x => ?_⟩⟩
  · unfold liveness_empty
    have e : w64 (R + 63) = R + 63 := w64_id (by omega) (by omega)
    have e2 : (R + 63).toNat / 64 = nw R := by unfold nw; omega
    rw [e, div64 (by omega) (by omega), e2, mk_eq (by unfold nw; omega) (by unfold nw; omega)]
    rfl
  · rw [List.eq_of_mem_replicate hw]; exact ⟨by decide, by decide⟩
  · simp only [List.not_mem_nil, false_iff, not_and]
    intro _
    unfold wb
    have : (List.replicate (nw R) (0 : Int)).getD (x.toNat / 64) 0 = 0 := by
      rw [List.getD_eq_getElem?_getD, List.getElem?_replicate]; split <;> rfl
    rw [this, tb_zero]; simp
theorem wb_set {ws : List Int} {i : Nat} {w : Int} (h : i < ws.length) (j : Nat) : wb (ws.set i w) j = if j / 64 = i then tb w (j % 64) else wb ws j := by
  unfold wb
  by_cases e : j / 64 = i
  · rw [if_pos e, List.getD_eq_getElem?_getD, e, List.getElem?_set_self h]; rfl
  · rw [if_neg e, List.getD_eq_getElem?_getD, List.getElem?_set_ne (Ne.symm e), ← List.getD_eq_getElem?_getD]
theorem wb_at {ws : List Int} {i : Nat} (h : i / 64 < ws.length) : tb ws[i / 64] (i % 64) = wb ws i := by
  unfold wb; rw [List.getD_eq_getElem?_getD, List.getElem?_eq_getElem h]; rfl
theorem wb_at' {ws : List Int} {i j : Nat} (h : i / 64 < ws.length) (e : j / 64 = i / 64) : tb ws[i / 64] (j % 64) = wb ws j := by
  unfold wb; rw [List.getD_eq_getElem?_getD, e, List.getElem?_eq_getElem h]; rfl
theorem add_ok {R : Int} (hR : R ≤ 3000) {ws l : List Int} (h : Rep (nw R) ws l) {a : Int} (h0 : 0 ≤ a) (ha : a < R) : ∃ ws', liveness_set_add ws a = some ws' ∧ Rep (nw R) ws' (ins l a) := by
  have hlt : a.toNat / 64 < ws.length := by rw [h.w.1]; unfold nw; omega
  have hu := h.w.get hlt
  have hm : a.toNat % 64 < 64 := Nat.mod_lt _ (by omega)
  refine ⟨ws.set (a.toNat / 64) (bOr .u64 ws[a.toNat / 64] (bShl .u64 1 ((a.toNat % 64 : Nat) : Int))), ?_, ?_⟩
  · unfold liveness_set_add
    rw [div64 h0 (by omega), mod64 h0, idx_get hlt]; rfl
  · rw [bShl_one hm]
    refine ⟨h.w.set (u64_or hu (u64_pow hm)), srt_ins h.s, fun x => ?_⟩
    rw [mem_ins, h.m, wb_set hlt]
    by_cases e : x.toNat / 64 = a.toNat / 64
    · rw [if_pos e, tb_or hu (u64_pow hm), tb_pow, wb_at' hlt e]
      simp only [Bool.or_eq_true, decide_eq_true_eq]
      constructor
      · rintro (rfl | ⟨h1, h2⟩)
        · exact ⟨h0, .inr rfl⟩
        · exact ⟨h1, .inl h2⟩
      · rintro ⟨h1, h2 | h2⟩
        · exact .inr ⟨h1, h2⟩
        · left; omega
    · rw [if_neg e]
      constructor
      · rintro (rfl | h1)
        · exact absurd rfl e
        · exact h1
      · exact .inr
theorem remove_ok {R : Int} (hR : R ≤ 3000) {ws l : List Int} (h : Rep (nw R) ws l) {a : Int} (h0 : 0 ≤ a) (ha : a < R) : ∃ ws', liveness_set_remove ws a = some ws' ∧ Rep (nw R) ws' (mns l [a]) := by
  have hlt : a.toNat / 64 < ws.length := by rw [h.w.1]; unfold nw; omega
  have hu := h.w.get hlt
  have hm : a.toNat % 64 < 64 := Nat.mod_lt _ (by omega)
  refine ⟨ws.set (a.toNat / 64) (bAndNot .u64 ws[a.toNat / 64] (bShl .u64 1 ((a.toNat % 64 : Nat) : Int))), ?_, ?_⟩
  · unfold liveness_set_remove
    rw [div64 h0 (by omega), mod64 h0, idx_get hlt]; rfl
  · rw [bShl_one hm]
    refine ⟨h.w.set u64_andNot, srt_mns h.s, fun x => ?_⟩
    rw [mem_mns, h.m, wb_set hlt, List.mem_singleton]
    by_cases e : x.toNat / 64 = a.toNat / 64
    · rw [if_pos e, tb_andNot hu (u64_pow hm), tb_pow, wb_at' hlt e]
      simp only [Bool.and_eq_true, Bool.not_eq_true', decide_eq_false_iff_not]
      constructor
      · rintro ⟨⟨h1, h2⟩, h3⟩
        exact ⟨h1, h2, fun e2 => h3 (by omega)⟩
      · rintro ⟨h1, h2, h3⟩
        exact ⟨⟨h1, h2⟩, fun e2 => h3 (by rw [e2])⟩
    · rw [if_neg e]
      constructor
      · exact fun h => h.1
      · exact fun h => ⟨h, fun e2 => e (by rw [e2])⟩

/-! ### Union -/
def orw (x y : Int) : Int := if bAndNot .u64 y x != 0 then bOr .u64 x y else x
theorem andNot_zero {x y : Int} (hx : U64 x) (hy : U64 y) : (bAndNot .u64 y x != 0) = false ↔ ∀ i, tb y i = true → tb x i = true := by
  constructor
  · intro h i hi
    have h0 : bAndNot .u64 y x = 0 := by simpa using h
    have := tb_andNot hy hx i
    rw [h0, tb_zero, hi] at this
    simpa using this.symm
  · intro h
    have : bAndNot .u64 y x = 0 := tb_ext u64_andNot.1 (by omega) fun i => by
      rw [tb_andNot hy hx, tb_zero]
      cases hi : tb y i with
      | false => rfl
      | true => rw [h i hi]; rfl
    simp [this]
theorem tb_orw {x y : Int} (hx : U64 x) (hy : U64 y) (i : Nat) : tb (orw x y) i = (tb x i || tb y i) := by
  unfold orw
  cases h : (bAndNot .u64 y x != 0) with
  | true => exact tb_or hx hy i
  | false =>
    have := (andNot_zero hx hy).1 h i
    cases hi : tb y i with
    | false => simp
    | true => rw [this hi]; simp [this hi]
theorem u64_orw {x y : Int} (hx : U64 x) (hy : U64 y) : U64 (orw x y) := by
  unfold orw; split
  · exact u64_or hx hy
  · exact hx
theorem union_l1' {a0 t : List Int} (hn : a0.length ≤ 100) : ∀ (q q2 p p2 : List Int) (m : Bool), a0.length = p.length + q.length → t = p2 ++ q2 → p2.length = p.length → q2.length = q.length →
    Ev (fun K k => liveness_set_union_l1 K a0 t k (m, (p.length : Int), p ++ q)) (m || (List.zipWith (fun x y => bAndNot .u64 y x != 0) q q2).any id, p ++ List.zipWith orw q q2) := by
  intro q
  induction q with
  | nil =>
    intro q2 p p2 m h1 h2 h3 h4
    refine Ev.step (fun K k => rfl) (Ev.f ?_ ((Ev.some _).cast (by simp)))
    simp [h1]
  | cons x q ih =>
    intro q2 p p2 m h1 h2 h3 h4
    match q2, h4 with
    | y :: q2, h4 =>
    simp only [List.length_cons] at h1 h4
    have hg : idx t (p.length : Int) = some y := idx_eq (by rw [h2, ← h3]; simp)
    have hs : idx (p ++ x :: q) (p.length : Int) = some x := idx_eq (by simp)
    have hw : w64 ((p.length : Int) + 1) = ((p ++ [orw x y]).length : Int) := by
      rw [w64_id (by omega) (by omega)]; simp
    refine Ev.step (fun K k => rfl) (Ev.t (by simp [h1]; omega) (Ev.bind (x := (m || (bAndNot .u64 y x != 0), (p ++ [orw x y]) ++ q)) (Ev.bindO hg (Ev.bindO hs ?_)) ?_))
    · cases hb : (bAndNot .u64 y x != 0) with
      | true => exact Ev.t rfl (Ev.bindO hs (Ev.bindO hg (Ev.bindO hs ((Ev.some _).cast (by simp [orw, hb])))))
      | false => exact Ev.f rfl ((Ev.some _).cast (by simp [orw, hb]))
    · show Ev (fun K k => liveness_set_union_l1 K a0 t k (_, w64 ((p.length : Int) + 1), _)) _
      rw [hw]
      refine (ih q2 (p ++ [orw x y]) (p2 ++ [y]) _ (by simp; omega) (by simp [h2]) (by simp [h3]) (by omega)).cast ?_
      simp [Bool.or_assoc]
theorem wb_zip {n : Nat} {s t : List Int} (hs : W n s) (ht : W n t) (i : Nat) : wb (List.zipWith orw s t) i = (wb s i || wb t i) := by
  unfold wb
  rcases Nat.lt_or_ge (i / 64) n with q | q
  · have h1 : i / 64 < s.length := by rw [hs.1]; exact q
    have h2 : i / 64 < t.length := by rw [ht.1]; exact q
    rw [List.getD_eq_getElem?_getD, List.getD_eq_getElem?_getD, List.getD_eq_getElem?_getD, List.getElem?_zipWith, List.getElem?_eq_getElem h1, List.getElem?_eq_getElem h2]
    exact tb_orw (hs.get h1) (ht.get h2) _
  · rw [List.getD_eq_getElem?_getD, List.getD_eq_getElem?_getD, List.getD_eq_getElem?_getD, List.getElem?_eq_none (show (List.zipWith orw s t).length ≤ i / 64 by simp [hs.1, ht.1]; exact q), List.getElem?_eq_none (show s.length ≤ i / 64 by rw [hs.1]; exact q), List.getElem?_eq_none (show t.length ≤ i / 64 by rw [ht.1]; exact q)]
    simp [tb_zero]
theorem W.zip {n : Nat} {s t : List Int} (hs : W n s) (ht : W n t) : W n (List.zipWith orw s t) := ⟨by simp [hs.1, ht.1], fun w hw => by
  obtain ⟨i, h1, h2⟩ := List.mem_iff_getElem.1 hw
  simp only [List.length_zipWith, Nat.lt_min] at h1
  rw [List.getElem_zipWith] at h2
  exact h2 ▸ u64_orw (hs.get h1.1) (ht.get h1.2)⟩
theorem ev_sunion {n : Nat} (hn : n ≤ 100) {s t l m : List Int} (hs : Rep n s l) (ht : Rep n t m) : ∃ ws, Ev (fun K _ => liveness_set_union K s t) (decide (∃ x, x ∈ m ∧ x ∉ l), ws) ∧ Rep n ws (uni l m) := by
  refine ⟨List.zipWith orw s t, ?_, hs.w.zip ht.w, srt_uni hs.s, fun x => ?_⟩
  · unfold liveness_set_union
    have h1 : Ev (fun K _ => liveness_set_union_l1 K s t K (false, 0, s)) _ := Ev.loop (union_l1' (by rw [hs.w.1]; exact hn) s t [] [] false (by simp) rfl rfl (by rw [hs.w.1, ht.w.1]))
    refine Ev.bind h1 ((Ev.some _).cast ?_)
    refine Prod.ext ?_ (by simp)
    show (false || (List.zipWith (fun x y => bAndNot .u64 y x != 0) s t).any id) = _
    rw [Bool.false_or, Bool.eq_iff_iff, decide_eq_true_eq, List.any_eq_true]
    constructor
    · rintro ⟨b, hb, hb2⟩
      obtain ⟨i, h1, h2⟩ := List.mem_iff_getElem.1 hb
      simp only [List.length_zipWith, Nat.lt_min] at h1
      rw [List.getElem_zipWith] at h2
      subst h2
      have hne : ¬ ∀ j, tb t[i] j = true → tb s[i] j = true := fun h => by
        have := (andNot_zero (hs.w.get h1.1) (ht.w.get h1.2)).2 h
        rw [show id (bAndNot .u64 t[i] s[i] != 0) = (bAndNot .u64 t[i] s[i] != 0) from rfl, this] at hb2
        exact absurd hb2 (by simp)
      obtain ⟨j, hj⟩ := Classical.not_forall.1 hne
      obtain ⟨hj1, hj2⟩ := Classical.not_imp.1 hj
      have hj64 : j < 64 := by
        rcases Nat.lt_or_ge j 64 with q | q
        · exact q
        · rw [tb_ge (ht.w.get h1.2) q] at hj1; cases hj1
      have e1 : (64 * i + j) / 64 = i := by omega
      have e2 : (64 * i + j) % 64 = j := by omega
      refine ⟨((64 * i + j : Nat) : Int), (ht.m _).2 ⟨by omega, ?_⟩, fun h => hj2 ?_⟩
      · simp only [Int.toNat_natCast, wb, e1, e2, List.getD_eq_getElem?_getD, List.getElem?_eq_getElem h1.2, Option.getD_some]; exact hj1
      · have := ((hs.m _).1 h).2
        simp only [Int.toNat_natCast, wb, e1, e2, List.getD_eq_getElem?_getD, List.getElem?_eq_getElem h1.1, Option.getD_some] at this; exact this
    · rintro ⟨x, hx1, hx2⟩
      obtain ⟨h0, hlt⟩ := ht.lt hx1
      have hb := ((ht.m x).1 hx1).2
      have q1 : x.toNat / 64 < s.length := by rw [hs.w.1]; omega
      have q2 : x.toNat / 64 < t.length := by rw [ht.w.1]; omega
      refine ⟨bAndNot .u64 t[x.toNat / 64] s[x.toNat / 64] != 0, List.mem_iff_getElem.2 ⟨x.toNat / 64, by simp only [List.length_zipWith, Nat.lt_min]; exact ⟨q1, q2⟩, by rw [List.getElem_zipWith]⟩, ?_⟩
      show (bAndNot .u64 t[x.toNat / 64] s[x.toNat / 64] != 0) = true
      cases hc : (bAndNot .u64 t[x.toNat / 64] s[x.toNat / 64] != 0) with
      | true => rfl
      | false =>
        exfalso
        have := (andNot_zero (hs.w.get q1) (ht.w.get q2)).1 hc (x.toNat % 64) (by rw [wb_at q2]; exact hb)
        rw [wb_at q1] at this
        exact hx2 ((hs.m x).2 ⟨h0, this⟩)
  · rw [mem_uni, hs.m, ht.m, wb_zip hs.w ht.w, Bool.or_eq_true]
    constructor
    · rintro (h | h)
      · exact ⟨h.1, .inl h.2⟩
      · exact ⟨h.1, .inr h.2⟩
    · rintro ⟨h, h2 | h2⟩
      · exact .inl ⟨h, h2⟩
      · exact .inr ⟨h, h2⟩

/-! ### list -/
def wl (k : Nat) (w : Int) (b d : Nat) : List Int := ((List.range' b d).filter (tb w)).map (fun b => ((64 * k + b : Nat) : Int))
def lstF : Nat → List Int → List Int
  | _, [] => []
  | k, w :: ws => wl k w 0 64 ++ lstF (k + 1) ws
theorem wl_len (k : Nat) (w : Int) (b d : Nat) : (wl k w b d).length ≤ d := by
  unfold wl
  rw [List.length_map]
  exact Nat.le_trans (List.length_filter_le _ _) (by simp)
theorem shr_zero {w : Int} (h : U64 w) {b : Nat} (hb : b ≤ 64) : (bShr .u64 w (b : Int) != 0) = false ↔ ∀ i, b ≤ i → tb w i = false := by
  rw [bShr_eq h hb]
  constructor
  · intro h1 i hi
    have h2 : w.toNat >>> b = 0 := by
      have : ((w.toNat >>> b : Nat) : Int) = 0 := by
        generalize w.toNat >>> b = n at h1 ⊢
        simpa using h1
      omega
    have := congrArg (fun n => n.testBit (i - b)) h2
    simp only [Nat.testBit_shiftRight, Nat.zero_testBit] at this
    unfold tb
    rw [show b + (i - b) = i by omega] at this; exact this
  · intro h1
    have : w.toNat >>> b = 0 := Nat.eq_of_testBit_eq fun i => by
      rw [Nat.testBit_shiftRight, Nat.zero_testBit]; exact h1 _ (by omega)
    simp [this]
theorem list_l2 {ws : List Int} {n : Nat} (hws : W n ws) (hn : n ≤ 100) {i : Nat} {w : Int} (hi : ws[i]? = some w) (o : List Int) : ∀ (d b : Nat) (s : List Int), b + d = 64 → s.length + d ≤ 10000 →
    Ev (fun K k => liveness_set_list_l2 K ws ((i : Int), o) k ((b : Int), s)) (s ++ wl i w b d) := by
  have hlt : i < ws.length := by
    rcases Nat.lt_or_ge i ws.length with q | q
    · exact q
    · rw [List.getElem?_eq_none q] at hi; cases hi
  have hu : U64 w := hws.2 w (List.mem_of_getElem? hi)
  have hg : idx ws (i : Int) = some w := idx_eq hi
  intro d
  induction d with
  | zero =>
    intro b s hb hs
    refine Ev.step (fun K k => rfl) (Ev.bindO hg (Ev.f ?_ ((Ev.some _).cast (by simp [wl]))))
    rw [show u64 (b : Int) = b from u64_nat (by omega)]
    exact (shr_zero hu (by omega)).2 fun i hi => tb_ge hu (by omega)
  | succ d ih =>
    intro b s hb hs
    refine Ev.step (fun K k => rfl) (Ev.bindO hg ?_)
    have eu : u64 (b : Int) = b := u64_nat (by omega)
    have hw : w64 ((b : Int) + 1) = ((b + 1 : Nat) : Int) := by rw [w64_id (by omega) (by omega)]; simp
    simp only [eu]
    refine Ev.cnd (fun h1 => ?_) (fun h1 => ?_)
    · have hbit : (bAnd .u64 (bShr .u64 w (b : Int)) 1 == 1) = tb w b := by
        have e := bShr_eq hu (b := b) (by omega)
        rw [bAnd_one (by
          rw [e]
          have : w.toNat >>> b ≤ w.toNat := by rw [Nat.shiftRight_eq_div_pow]; exact Nat.div_le_self _ _
          have := u64_lt hu
          generalize w.toNat >>> b = n at *
          exact ⟨by omega, by omega⟩), e]
        unfold tb
        rw [Int.toNat_natCast, Nat.testBit_shiftRight]; rfl
      refine Ev.bind (x := if tb w b then s ++ [((64 * i + b : Nat) : Int)] else s) (Ev.bindO hg ?_) ?_
      · show Ev (fun K k => cnd (bAnd .u64 (bShr .u64 w (b : Int)) 1 == 1) _ _) _
        rw [hbit]
        refine Ev.cnd (fun h2 => ?_) (fun h2 => ?_)
        · have e3 : w64 (w64 (64 * (i : Int)) + (b : Int)) = ((64 * i + b : Nat) : Int) := by
            rw [hws.1] at hlt
            rw [w64_id (n := 64 * (i : Int)) (by omega) (by omega), w64_id (by omega) (by omega)]; simp
          simp only [e3, h2, if_true]
          exact Ev.bindO (app_eq (by simp; omega) (by simp; omega)) (Ev.some _)
        · simp only [h2]; exact Ev.some _
      · show Ev (fun K k => liveness_set_list_l2 K ws ((i : Int), o) k (w64 ((b : Int) + 1), _)) _
        rw [hw]
        have e4 : wl i w b (d + 1) = (if tb w b then [((64 * i + b : Nat) : Int)] else []) ++ wl i w (b + 1) d := by
          unfold wl
          rw [List.range'_succ, List.filter_cons]
          split <;> simp
        rw [e4]
        cases tb w b with
        | true => refine (ih (b + 1) (s ++ [((64 * i + b : Nat) : Int)]) (by omega) (by simp; omega)).cast ?_; simp
        | false => refine (ih (b + 1) s (by omega) (by omega)).cast ?_; simp
    · refine (Ev.some _).cast ?_
      have h2 := (shr_zero hu (by omega)).1 h1
      have : wl i w b (d + 1) = [] := by
        unfold wl
        rw [List.filter_eq_nil_iff.2 fun j hj => by
          have := List.mem_range'_1.1 hj
          rw [h2 j this.1]; simp]
        rfl
      rw [this, List.append_nil]
theorem list_l1 {ws : List Int} {n : Nat} (hws : W n ws) (hn : n ≤ 100) : ∀ (q p : List Int) (s : List Int), ws = p ++ q → s.length + 64 * q.length ≤ 10000 →
    Ev (fun K k => liveness_set_list_l1 K ws k ((p.length : Int), s)) (s ++ lstF p.length q) := by
  have hl := hws.1
  intro q
  induction q with
  | nil =>
    intro p s h hs
    refine Ev.step (fun K k => rfl) (Ev.f ?_ ((Ev.some _).cast (by simp [lstF])))
    subst h; simp
  | cons y q ih =>
    intro p s h hs
    have hlt : (p.length : Int) < (ws.length : Int) := by subst h; simp; omega
    simp only [List.length_cons] at hs
    have hw : w64 ((p.length : Int) + 1) = ((p ++ [y]).length : Int) := by
      rw [w64_id (by omega) (by omega)]; simp
    have hwl := wl_len p.length y 0 64
    refine Ev.step (fun K k => rfl) (Ev.t (by simpa using hlt) (Ev.bind (x := s ++ wl p.length y 0 64) (Ev.loop (list_l2 hws hn (i := p.length) (w := y) (by subst h; simp) s 64 0 s rfl (by omega))) ?_))
    show Ev (fun K k => liveness_set_list_l1 K ws k (w64 ((p.length : Int) + 1), _)) _
    rw [hw]
    refine (ih (p ++ [y]) (s ++ wl p.length y 0 64) (by subst h; simp) (by simp; omega)).cast ?_
    simp [lstF]
theorem mem_wl {k : Nat} {w : Int} {x : Int} (hw : U64 w) : x ∈ wl k w 0 64 ↔ 0 ≤ x ∧ x.toNat / 64 = k ∧ tb w (x.toNat % 64) = true := by
  unfold wl
  simp only [List.mem_map, List.mem_filter, List.mem_range'_1]
  constructor
  · rintro ⟨b, ⟨h1, h2⟩, rfl⟩
    refine ⟨by omega, by omega, ?_⟩
    rw [Int.toNat_natCast, show (64 * k + b) % 64 = b by omega]; exact h2
  · rintro ⟨h1, h2, h3⟩
    exact ⟨x.toNat % 64, ⟨by omega, h3⟩, by omega⟩
theorem srt_wl {k : Nat} {w : Int} : Srt (wl k w 0 64) := by
  unfold wl Srt
  rw [List.pairwise_map]
  refine List.Pairwise.imp (fun h => by omega) (List.Pairwise.filter _ List.pairwise_lt_range')
theorem mem_lstF {ws : List Int} (hw : ∀ w, w ∈ ws → U64 w) (k : Nat) (x : Int) : x ∈ lstF k ws ↔ 0 ≤ x ∧ k ≤ x.toNat / 64 ∧ tb (ws.getD (x.toNat / 64 - k) 0) (x.toNat % 64) = true := by
  induction ws generalizing k with
  | nil => simp [lstF, tb_zero]
  | cons w ws ih =>
    simp only [lstF, List.mem_append, mem_wl (hw w (by simp)), ih (fun v hv => hw v (by simp [hv]))]
    constructor
    · rintro (⟨h1, h2, h3⟩ | ⟨h1, h2, h3⟩)
      · refine ⟨h1, by omega, ?_⟩
        rw [show x.toNat / 64 - k = 0 by omega]; exact h3
      · refine ⟨h1, by omega, ?_⟩
        rw [show x.toNat / 64 - k = (x.toNat / 64 - (k + 1)) + 1 by omega]; exact h3
    · rintro ⟨h1, h2, h3⟩
      rcases Nat.eq_or_lt_of_le h2 with q | q
      · left; refine ⟨h1, q.symm, ?_⟩
        rw [show x.toNat / 64 - k = 0 by omega] at h3; exact h3
      · right; refine ⟨h1, q, ?_⟩
        rw [show x.toNat / 64 - k = (x.toNat / 64 - (k + 1)) + 1 by omega] at h3; exact h3
theorem srt_lstF {ws : List Int} (hw : ∀ w, w ∈ ws → U64 w) (k : Nat) : Srt (lstF k ws) := by
  induction ws generalizing k with
  | nil => exact List.Pairwise.nil
  | cons w ws ih =>
    refine List.pairwise_append.2 ⟨srt_wl, ih (fun v hv => hw v (by simp [hv])) _, fun a ha b hb => ?_⟩
    have h1 := (mem_wl (hw w (by simp))).1 ha
    have h2 := (mem_lstF (fun v hv => hw v (by simp [hv])) _ _).1 hb
    omega
theorem ev_list {n : Nat} (hn : n ≤ 100) {ws l : List Int} (h : Rep n ws l) : Ev (fun K _ => liveness_set_list K ws) l := by
  have e : lstF 0 ws = l := srt_ext (srt_lstF h.w.2 0) h.s fun x => by
    rw [mem_lstF h.w.2, h.m]; simp [wb]
  unfold liveness_set_list
  refine Ev.bind (Ev.loop (list_l1 h.w hn ws [] [] rfl (by rw [h.w.1]; simp; omega))) ((Ev.some _).cast ?_)
  simpa using e

/-! ### transfer -/
/-- Live before v, from what is live after it. -/
def tr (v : VInstr) (l : List Int) : List Int := uni (mns l (wr v)) (rd v)
theorem remove_l {R : Int} (hR : R ≤ 3000) {r : List Int} (hr : ∀ x, x ∈ r → 0 ≤ x ∧ x < R) (hl : Sm r) : ∀ (q p : List Int) (ws l : List Int), r = p ++ q → Rep (nw R) ws l →
    ∃ ws', Ev (fun K k => liveness_transfer_l1 K r k ((p.length : Int), ws)) ws' ∧ Rep (nw R) ws' (mns l q) := by
  intro q
  induction q with
  | nil =>
    intro p ws l h h2
    refine ⟨ws, Ev.step (fun K k => rfl) (Ev.f ?_ (Ev.some _)), ?_⟩
    · subst h; simp
    · have : mns l [] = l := by simp [mns]
      rw [this]; exact h2
  | cons y q ih =>
    intro p ws l h h2
    have hlt : (p.length : Int) < (r.length : Int) := by subst h; simp; omega
    have hg : idx r (p.length : Int) = some y := idx_eq (by subst h; simp)
    have hw : w64 ((p.length : Int) + 1) = ((p ++ [y]).length : Int) := by
      rw [w64_id (by omega) (by omega)]; simp
    have hy := hr y (by subst h; simp)
    obtain ⟨w1, e1, r1⟩ := remove_ok hR h2 hy.1 hy.2
    obtain ⟨w2, e2, r2⟩ := ih (p ++ [y]) w1 _ (by subst h; simp) r1
    refine ⟨w2, Ev.step (fun K k => rfl) (Ev.t (by simpa using hlt) (Ev.bindO hg (Ev.bindO e1 ?_))), ?_⟩
    · rw [hw]; exact e2
    · have : mns l (y :: q) = mns (mns l [y]) q := by
        unfold mns
        rw [List.filter_filter]
        congr 1; funext x
        cases hx : (x == y) <;> simp [List.contains_cons, hx, Bool.and_comm]
      rw [this]; exact r2
theorem add_l {R : Int} (hR : R ≤ 3000) {r : List Int} (hr : ∀ x, x ∈ r → 0 ≤ x ∧ x < R) (hl : Sm r) : ∀ (q p : List Int) (ws l : List Int), r = p ++ q → Rep (nw R) ws l →
    ∃ ws', Ev (fun K k => liveness_transfer_l2 K r k ((p.length : Int), ws)) ws' ∧ Rep (nw R) ws' (uni l q) := by
  intro q
  induction q with
  | nil =>
    intro p ws l h h2
    refine ⟨ws, Ev.step (fun K k => rfl) (Ev.f ?_ (Ev.some _)), h2⟩
    subst h; simp
  | cons y q ih =>
    intro p ws l h h2
    have hlt : (p.length : Int) < (r.length : Int) := by subst h; simp; omega
    have hg : idx r (p.length : Int) = some y := idx_eq (by subst h; simp)
    have hw : w64 ((p.length : Int) + 1) = ((p ++ [y]).length : Int) := by
      rw [w64_id (by omega) (by omega)]; simp
    have hy := hr y (by subst h; simp)
    obtain ⟨w1, e1, r1⟩ := add_ok hR h2 hy.1 hy.2
    obtain ⟨w2, e2, r2⟩ := ih (p ++ [y]) w1 _ (by subst h; simp) r1
    refine ⟨w2, Ev.step (fun K k => rfl) (Ev.t (by simpa using hlt) (Ev.bindO hg (Ev.bindO e1 ?_))), r2⟩
    rw [hw]; exact e2
end Go.Proofs.YtocfnpnnbmicmaaDoor.Tc
