/- What validity gives; live registers as a least solution; liveness.analyze comes to it. -/
import Derived.Test.YtocfnpnnbmicmaaDoorP4Rc
set_option linter.unusedVariables false
set_option linter.unusedSimpArgs false
namespace Go.Proofs.YtocfnpnnbmicmaaDoor.Tc
open Go

/-! ### Valid functions -/
theorem regB_iff {c : VFunc} {n : Int} : regB c n = true ↔ 0 ≤ n ∧ n < c.Regs := by unfold regB; simp
theorem blkB_iff {c : VFunc} {n : Int} : blkB c n = true ↔ 0 ≤ n ∧ n < (c.Blocks.length : Int) := by unfold blkB; simp
theorem use_all : opsL.all (fun op => ((!(opI op).ReadsA) || fA (fm op)) && ((!(opI op).ReadsB) || fB (fm op)) && ((!((op == 11) || (op == 12))) || fC (fm op)) && ((!((opI op).WritesA || (op == 6) || (op == 38))) || fA (fm op))) = true := by kernel_rfl
theorem use_eq {op : Int} (h : alw op = true) : ((opI op).ReadsA = true → fA (fm op) = true) ∧ ((opI op).ReadsB = true → fB (fm op) = true) ∧ (((op == 11) || (op == 12)) = true → fC (fm op) = true) ∧ (((opI op).WritesA || (op == 6) || (op == 38)) = true → fA (fm op) = true) := by
  have h1 := List.all_eq_true.1 use_all op (alw_mem h)
  rw [Bool.and_eq_true, Bool.and_eq_true, Bool.and_eq_true] at h1
  have gen : ∀ a b : Bool, ((!a) || b) = true → a = true → b = true := by decide
  exact ⟨gen _ _ h1.1.1.1, gen _ _ h1.1.1.2, gen _ _ h1.1.2, gen _ _ h1.2⟩
structure InsV (c : VFunc) (v : VInstr) : Prop where
  a : alw v.Instr.Op = true
  n : v.Args.length ≤ 6
  r : ∀ x, x ∈ rd v → 0 ≤ x ∧ x < c.Regs
  w : ∀ x, x ∈ wr v → 0 ≤ x ∧ x < c.Regs
  g : ∀ x, x ∈ v.Args → 0 ≤ x ∧ x < c.Regs
  o : v.Instr.Op ≠ 6 → v.Args = []
theorem ite_false {b c : Bool} (h : (if b then false else c) = true) : b = false ∧ c = true := by
  cases b
  · exact ⟨rfl, by simpa using h⟩
  · simp at h
theorem ite_false' {b c : Bool} (h : (if b then c else false) = true) : b = true ∧ c = true := by
  cases b
  · simp at h
  · exact ⟨rfl, by simpa using h⟩
theorem insV {c : VFunc} {v : VInstr} (h : insB c v = true) : InsV c v := by
  unfold insB at h
  obtain ⟨h1, h2⟩ := ite_false h
  obtain ⟨h3, h4⟩ := ite_false' h2
  obtain ⟨h5, _⟩ := ite_false h4
  simp only [Bool.or_eq_false_iff] at h1 h5
  have ha : alw v.Instr.Op = true := by simpa using h1.1.1
  have hn : v.Args.length ≤ 6 := by have := h1.1.2; simp at this; omega
  have hg : ∀ x, x ∈ v.Args → 0 ≤ x ∧ x < c.Regs := fun x hx => regB_iff.1 (List.all_eq_true.1 h3 x hx)
  have gen : ∀ a b : Bool, (a && !b) = false → a = true → b = true := by decide
  have hA := gen _ _ h5.1.1.1.1.1.1
  have hB := gen _ _ h5.1.1.1.1.1.2
  have hC := gen _ _ h5.1.1.1.1.2
  obtain ⟨u1, u2, u3, u4⟩ := use_eq ha
  refine ⟨ha, hn, fun x hx => ?_, fun x hx => ?_, hg, fun h6 => ?_⟩
  · unfold rd at hx
    rw [if_pos ha] at hx
    rcases mem_uni.1 hx with e | e
    · simp at e
    · unfold rdRaw at e
      simp only [List.mem_append] at e
      rcases e with ((e | e) | e) | e
      · cases hc : (opI v.Instr.Op).ReadsA with
        | true => rw [hc] at e; rw [List.mem_singleton.1 e]; exact regB_iff.1 (hA (u1 hc))
        | false => rw [hc] at e; simp at e
      · cases hc : (opI v.Instr.Op).ReadsB with
        | true => rw [hc] at e; rw [List.mem_singleton.1 e]; exact regB_iff.1 (hB (u2 hc))
        | false => rw [hc] at e; simp at e
      · cases hc : ((v.Instr.Op == 11) || (v.Instr.Op == 12)) with
        | true => rw [hc] at e; rw [List.mem_singleton.1 e]; exact regB_iff.1 (hC (u3 hc))
        | false => rw [hc] at e; simp at e
      · cases hc : (v.Instr.Op == 6) with
        | true => rw [hc] at e; exact hg x (by simpa using e)
        | false => rw [hc] at e; simp at e
  · unfold wr at hx
    rw [ha, Bool.true_and] at hx
    cases hc : ((opI v.Instr.Op).WritesA || (v.Instr.Op == 6) || (v.Instr.Op == 38)) with
    | true => rw [hc] at hx; rw [List.mem_singleton.1 hx]; exact regB_iff.1 (hA (u4 hc))
    | false => rw [hc] at hx; simp at hx
  · have h7 := h1.2
    have : (v.Instr.Op != 6) = true := by simpa using h6
    rw [this, Bool.true_and] at h7
    have h8 : v.Args.length = 0 := by have := of_decide_eq_false h7; omega
    exact List.eq_nil_of_length_eq_zero h8
/-- A function that is valid and that a machine can hold. -/
structure Vd (c : VFunc) : Prop where
  v : validB c = true
  s : ∀ b, b ∈ c.Blocks → b.Instrs.length ≤ 2199023255552
def blk0 : Block := ⟨[], 0, 0, 0, 0⟩
def bk (c : VFunc) (k : Nat) : Block := c.Blocks.getD k blk0
theorem bk_get {c : VFunc} {k : Nat} (h : k < c.Blocks.length) : c.Blocks[k]? = some (bk c k) := by
  unfold bk; rw [List.getD_eq_getElem?_getD, List.getElem?_eq_getElem h]; rfl
theorem bk_mem {c : VFunc} {k : Nat} (h : k < c.Blocks.length) : bk c k ∈ c.Blocks := List.mem_of_getElem? (bk_get h)
theorem bk_idx {c : VFunc} {k : Nat} (h : k < c.Blocks.length) : idx c.Blocks (k : Int) = some (bk c k) := idx_eq (bk_get h)
structure HeadV (c : VFunc) : Prop where
  p0 : 0 ≤ c.Params
  p1 : c.Params ≤ 6
  r0 : 0 ≤ c.Regs
  r1 : c.Regs ≤ 3000
  b0 : 1 ≤ c.Blocks.length
  b1 : c.Blocks.length ≤ 1000
theorem validB_iff {c : VFunc} : validB c = true ↔ headB c = false ∧ ∀ b, b ∈ c.Blocks → (∀ v, v ∈ b.Instrs → insB c v = true) ∧ endB c b = true := by
  unfold validB
  simp only [Bool.and_eq_true, Bool.not_eq_true', List.all_eq_true]
theorem headV_iff {c : VFunc} : headB c = false ↔ HeadV c := by
  unfold headB
  simp only [Bool.or_eq_false_iff, decide_eq_false_iff_not]
  constructor
  · rintro ⟨⟨⟨⟨⟨a, b⟩, d⟩, e⟩, f⟩, g⟩
    exact ⟨by omega, by omega, by omega, by omega, by omega, by omega⟩
  · rintro ⟨a, b, d, e, f, g⟩
    omega
theorem Vd.h {c : VFunc} (h : Vd c) : HeadV c := headV_iff.1 (validB_iff.1 h.v).1
theorem Vd.sm {c : VFunc} (h : Vd c) : SmF c := ⟨by have := h.h.b1; unfold Sm; omega, fun b hb => by have := h.s b hb; unfold Sm; omega⟩
theorem Vd.i {c : VFunc} (h : Vd c) {k : Nat} (hk : k < c.Blocks.length) {v : VInstr} (hv : v ∈ (bk c k).Instrs) : InsV c v := insV (((validB_iff.1 h.v).2 _ (bk_mem hk)).1 v hv)
theorem Vd.len {c : VFunc} (h : Vd c) {k : Nat} (hk : k < c.Blocks.length) : (bk c k).Instrs.length ≤ 2199023255552 := h.s _ (bk_mem hk)
structure EndV (c : VFunc) (b : Block) : Prop where
  s : ∀ t, t ∈ su b → 0 ≤ t ∧ t < (c.Blocks.length : Int)
  e : ∀ x, x ∈ er b → 0 ≤ x ∧ x < c.Regs
  o : b.End = 1 ∨ b.End = 2 ∨ b.End = 3 ∨ b.End = 4
theorem endV {c : VFunc} {b : Block} (h : endB c b = true) : EndV c b := by
  unfold endB at h
  by_cases h1 : b.End = 1
  · simp only [h1, beq_self_eq_true, if_true, Bool.and_eq_true] at h
    refine ⟨fun t ht => ?_, fun x hx => ?_, .inl h1⟩
    · simp [su, h1] at ht; subst ht; exact blkB_iff.1 h.1.1
    · simp [er, h1] at hx
  by_cases h2 : b.End = 2
  · simp [h2] at h
    refine ⟨fun t ht => ?_, fun x hx => ?_, .inr (.inl h2)⟩
    · have ht : t ∈ ins [b.Target] b.Else := by simpa [su, h2] using ht
      rw [mem_ins, List.mem_singleton] at ht
      rcases ht with rfl | rfl
      · exact blkB_iff.1 h.1.2
      · exact blkB_iff.1 h.1.1
    · simp [er, h2] at hx; subst hx; exact regB_iff.1 h.2
  by_cases h3 : b.End = 3
  · simp [h3] at h
    refine ⟨fun t ht => ?_, fun x hx => ?_, .inr (.inr (.inl h3))⟩
    · simp [su, h3] at ht
    · simp [er, h3] at hx; subst hx; exact regB_iff.1 h.1.1
  by_cases h4 : b.End = 4
  · refine ⟨fun t ht => ?_, fun x hx => ?_, .inr (.inr (.inr h4))⟩
    · simp [su, h4] at ht
    · simp [er, h4] at hx
  · rw [if_neg (by simpa using h1), if_neg (by simpa using h2), if_neg (by simpa using h3), if_neg (by simpa using h4)] at h; cases h
theorem Vd.e {c : VFunc} (h : Vd c) {k : Nat} (hk : k < c.Blocks.length) : EndV c (bk c k) := endV ((validB_iff.1 h.v).2 _ (bk_mem hk)).2
theorem su_len (b : Block) : (su b).length ≤ 2 := by
  unfold su
  split
  · simp
  · split
    · have := len_ins [b.Target] b.Else; simpa using this
    · simp
theorem Vd.suc {c : VFunc} (h : Vd c) {k : Nat} (hk : k < c.Blocks.length) {t : Int} (ht : t ∈ su (bk c k)) : t.toNat < c.Blocks.length := by have := (h.e hk).s t ht; omega

/-! ### Live registers -/
def blkIn (b : Block) (o : List Int) : List Int := b.Instrs.foldr tr (uni o (er b))
def U (b : Block) (f : Nat → List Int) : List Int := (su b).foldl (fun a t => uni a (f t.toNat)) []
theorem mem_tr {v : VInstr} {l : List Int} {x : Int} : x ∈ tr v l ↔ (x ∈ l ∧ x ∉ wr v) ∨ x ∈ rd v := by
  unfold tr; rw [mem_uni, mem_mns]
theorem srt_tr {v : VInstr} {l : List Int} (h : Srt l) : Srt (tr v l) := srt_uni (srt_mns h)
theorem srt_foldr {vs : List VInstr} {l : List Int} (h : Srt l) : Srt (vs.foldr tr l) := by
  induction vs with
  | nil => exact h
  | cons v vs ih => exact srt_tr ih
theorem srt_blkIn {b : Block} {o : List Int} (h : Srt o) : Srt (blkIn b o) := srt_foldr (srt_uni h)
theorem mem_ufold {f : Nat → List Int} {x : Int} : ∀ (q a : List Int), x ∈ q.foldl (fun a t => uni a (f t.toNat)) a ↔ x ∈ a ∨ ∃ t, t ∈ q ∧ x ∈ f t.toNat := by
  intro q
  induction q with
  | nil => simp
  | cons t q ih =>
    intro a
    simp only [List.foldl_cons, ih, mem_uni, List.mem_cons]
    constructor
    · rintro ((h | h) | ⟨t2, h1, h2⟩)
      · exact .inl h
      · exact .inr ⟨t, .inl rfl, h⟩
      · exact .inr ⟨t2, .inr h1, h2⟩
    · rintro (h | ⟨t2, rfl | h1, h2⟩)
      · exact .inl (.inl h)
      · exact .inl (.inr h2)
      · exact .inr ⟨t2, h1, h2⟩
theorem srt_ufold {f : Nat → List Int} : ∀ (q a : List Int), Srt a → Srt (q.foldl (fun a t => uni a (f t.toNat)) a) := by
  intro q
  induction q with
  | nil => exact fun _ h => h
  | cons t q ih => exact fun a h => ih _ (srt_uni h)
theorem mem_U {b : Block} {f : Nat → List Int} {x : Int} : x ∈ U b f ↔ ∃ t, t ∈ su b ∧ x ∈ f t.toNat := by
  unfold U; rw [mem_ufold]; simp
theorem srt_U (b : Block) (f : Nat → List Int) : Srt (U b f) := srt_ufold _ _ List.Pairwise.nil
theorem mem_foldr {e o : List Int} {x : Int} (vs : List VInstr) : x ∈ vs.foldr tr (uni o e) ↔ x ∈ vs.foldr tr (uni [] e) ∨ (x ∈ o ∧ ∀ v, v ∈ vs → x ∉ wr v) := by
  induction vs with
  | nil => simp [mem_uni, or_comm]
  | cons v vs ih =>
    simp only [List.foldr_cons, mem_tr, ih, List.mem_cons, forall_eq_or_imp]
    constructor
    · rintro (⟨h1 | h1, h2⟩ | h)
      · exact .inl (.inl ⟨h1, h2⟩)
      · exact .inr ⟨h1.1, h2, h1.2⟩
      · exact .inl (.inr h)
    · rintro ((⟨h1, h2⟩ | h) | ⟨h1, h2, h3⟩)
      · exact .inl ⟨.inl h1, h2⟩
      · exact .inr h
      · exact .inl ⟨.inr ⟨h1, h3⟩, h2⟩
theorem mem_blkIn {b : Block} {o : List Int} {x : Int} : x ∈ blkIn b o ↔ x ∈ blkIn b [] ∨ (x ∈ o ∧ ∀ v, v ∈ b.Instrs → x ∉ wr v) := mem_foldr _
theorem mem_gen {vs : List VInstr} {l : List Int} {x : Int} (h : x ∈ vs.foldr tr l) : x ∈ l ∨ ∃ v, v ∈ vs ∧ x ∈ rd v := by
  induction vs with
  | nil => exact .inl h
  | cons v vs ih =>
    rcases mem_tr.1 h with ⟨h1, _⟩ | h1
    · rcases ih h1 with h2 | ⟨w, h2, h3⟩
      · exact .inl h2
      · exact .inr ⟨w, by simp [h2], h3⟩
    · exact .inr ⟨v, by simp, h1⟩
/-- Register x is live where block k begins. -/
inductive Live (c : VFunc) : Nat → Int → Prop
  | gen {k : Nat} {x : Int} : k < c.Blocks.length → x ∈ blkIn (bk c k) [] → Live c k x
  | thru {k : Nat} {x t : Int} : k < c.Blocks.length → (∀ v, v ∈ (bk c k).Instrs → x ∉ wr v) → t ∈ su (bk c k) → Live c t.toNat x → Live c k x
theorem Live.reg {c : VFunc} (h : Vd c) {k : Nat} {x : Int} (hl : Live c k x) : 0 ≤ x ∧ x < c.Regs := by
  induction hl with
  | gen hk hx =>
    rcases mem_gen hx with h1 | ⟨v, h1, h2⟩
    · rcases mem_uni.1 h1 with h2 | h2
      · simp at h2
      · exact (h.e hk).e _ h2
    · exact (h.i hk h1).r _ h2
  | thru _ _ _ _ ih => exact ih
open Classical in
noncomputable def LI (c : VFunc) (k : Nat) : List Int := ((List.range c.Regs.toNat).map (fun n : Nat => (n : Int))).filter (fun x => decide (Live c k x))
noncomputable def LO (c : VFunc) (k : Nat) : List Int := U (bk c k) (LI c)
theorem srt_LI (c : VFunc) (k : Nat) : Srt (LI c k) := by
  unfold LI Srt
  refine List.Pairwise.filter _ ?_
  rw [List.pairwise_map]
  exact List.Pairwise.imp (fun h => by omega) List.pairwise_lt_range
theorem srt_LO (c : VFunc) (k : Nat) : Srt (LO c k) := srt_U _ _
theorem mem_LI {c : VFunc} (h : Vd c) {k : Nat} {x : Int} : x ∈ LI c k ↔ Live c k x := by
  unfold LI
  simp only [List.mem_filter, List.mem_map, List.mem_range, decide_eq_true_eq]
  constructor
  · exact fun h => h.2
  · intro hl
    have := hl.reg h
    exact ⟨⟨x.toNat, by omega, by omega⟩, hl⟩
theorem live_iff {c : VFunc} {k : Nat} (hk : k < c.Blocks.length) {x : Int} : Live c k x ↔ x ∈ blkIn (bk c k) [] ∨ ((∃ t, t ∈ su (bk c k) ∧ Live c t.toNat x) ∧ ∀ v, v ∈ (bk c k).Instrs → x ∉ wr v) := by
  constructor
  · intro h
    cases h with
    | gen _ h => exact .inl h
    | thru _ h1 h2 h3 => exact .inr ⟨⟨_, h2, h3⟩, h1⟩
  · rintro (h | ⟨⟨t, h1, h2⟩, h3⟩)
    · exact .gen hk h
    · exact .thru hk h3 h1 h2
theorem LI_eq {c : VFunc} (h : Vd c) {k : Nat} (hk : k < c.Blocks.length) : LI c k = blkIn (bk c k) (LO c k) := by
  refine srt_ext (srt_LI c k) (srt_blkIn (srt_LO c k)) fun x => ?_
  rw [mem_LI h, mem_blkIn, live_iff hk]
  unfold LO
  rw [mem_U]
  simp only [mem_LI h]
/-- A solution whose sets are live is the one. -/
theorem LI_of {c : VFunc} (h : Vd c) {I : Nat → List Int} (h1 : ∀ k, k < c.Blocks.length → Srt (I k) ∧ ∀ x, x ∈ I k → Live c k x) (h2 : ∀ k, k < c.Blocks.length → I k = blkIn (bk c k) (U (bk c k) I)) (k : Nat) (hk : k < c.Blocks.length) : I k = LI c k := by
  refine srt_ext (h1 k hk).1 (srt_LI c k) fun x => ?_
  rw [mem_LI h]
  refine ⟨(h1 k hk).2 x, fun hl => ?_⟩
  clear h1
  induction hl with
  | gen h3 h4 => rw [h2 _ h3, mem_blkIn]; exact .inl h4
  | thru h3 h4 h5 h6 ih =>
    rw [h2 _ h3, mem_blkIn, mem_U]
    exact .inr ⟨⟨_, h5, ih (h.suc h3 h5)⟩, h4⟩
theorem U_congr {b : Block} {f g : Nat → List Int} (h : ∀ t, t ∈ su b → f t.toNat = g t.toNat) : U b f = U b g := by
  unfold U
  have : ∀ (q : List Int), (∀ t, t ∈ q → f t.toNat = g t.toNat) → ∀ a : List Int, q.foldl (fun a t => uni a (f t.toNat)) a = q.foldl (fun a t => uni a (g t.toNat)) a := by
    intro q
    induction q with
    | nil => exact fun _ _ => rfl
    | cons t q ih => intro h a; simp only [List.foldl_cons]; rw [h t (by simp), ih (fun t ht => h t (by simp [ht]))]
  exact this _ h []
theorem blkIn_mono {b : Block} {l m : List Int} (h : ∀ x, x ∈ l → x ∈ m) {x : Int} (hx : x ∈ blkIn b l) : x ∈ blkIn b m := by
  rw [mem_blkIn] at hx ⊢
  rcases hx with h1 | ⟨h1, h2⟩
  · exact .inl h1
  · exact .inr ⟨h _ h1, h2⟩
theorem reg_blkIn {c : VFunc} (h : Vd c) {k : Nat} (hk : k < c.Blocks.length) {o : List Int} (ho : ∀ x, x ∈ o → 0 ≤ x ∧ x < c.Regs) {x : Int} (hx : x ∈ blkIn (bk c k) o) : 0 ≤ x ∧ x < c.Regs := by
  rcases mem_blkIn.1 hx with h1 | ⟨h1, _⟩
  · exact (Live.gen hk h1).reg h
  · exact ho x h1

/-! ### Rounds -/
def fup (I : Nat → List Int) (k : Nat) (l : List Int) : Nat → List Int := fun j => if j = k then l else I j
theorem fup_self (I : Nat → List Int) (k : Nat) (l : List Int) : fup I k l k = l := by simp [fup]
theorem fup_ne (I : Nat → List Int) {k j : Nat} (l : List Int) (h : j ≠ k) : fup I k l j = I j := by simp [fup, h]
def tot (n : Nat) (I : Nat → List Int) : Nat := ((List.range n).map (fun k => (I k).length)).sum
theorem tot_succ (n : Nat) (I : Nat → List Int) : tot (n + 1) I = tot n I + (I n).length := by
  unfold tot; rw [List.range_succ]; simp
theorem tot_congr {n : Nat} {I J : Nat → List Int} (h : ∀ k, k < n → I k = J k) : tot n I = tot n J := by
  unfold tot
  congr 1
  exact List.map_congr_left fun k hk => by rw [h k (List.mem_range.1 hk)]
theorem tot_fup {n : Nat} (I : Nat → List Int) {k : Nat} (hk : k < n) (l : List Int) : tot n (fup I k l) + (I k).length = tot n I + l.length := by
  induction n with
  | zero => omega
  | succ n ih =>
    rw [tot_succ, tot_succ]
    rcases Nat.lt_or_ge k n with q | q
    · have := ih q
      rw [fup_ne I l (by omega : n ≠ k)]; omega
    · have : k = n := by omega
      subst this
      rw [fup_self, tot_congr (J := I) fun j hj => fup_ne I l (by omega)]; omega
theorem tot_le {n m : Nat} {I : Nat → List Int} (h : ∀ k, k < n → (I k).length ≤ m) : tot n I ≤ n * m := by
  induction n with
  | zero => simp [tot]
  | succ n ih =>
    rw [tot_succ, Nat.succ_mul]
    have := ih fun k hk => h k (by omega)
    have := h n (by omega)
    omega
/-- What holds of both sides' sets at all times. -/
structure Inv (c : VFunc) (I O : Nat → List Int) : Prop where
  si : ∀ k, k < c.Blocks.length → Srt (I k)
  so : ∀ k, k < c.Blocks.length → Srt (O k)
  li : ∀ k, k < c.Blocks.length → ∀ x, x ∈ I k → Live c k x
  oo : ∀ k, k < c.Blocks.length → ∀ x, x ∈ O k → x ∈ U (bk c k) I
  ii : ∀ k, k < c.Blocks.length → ∀ x, x ∈ I k → x ∈ blkIn (bk c k) (U (bk c k) I)
theorem Inv.start (c : VFunc) : Inv c (fun _ => []) (fun _ => []) := ⟨fun _ _ => List.Pairwise.nil, fun _ _ => List.Pairwise.nil, fun _ _ _ h => by simp at h, fun _ _ _ h => by simp at h, fun _ _ _ h => by simp at h⟩
theorem Inv.len {c : VFunc} (h : Vd c) {I O : Nat → List Int} (hi : Inv c I O) {k : Nat} (hk : k < c.Blocks.length) : (I k).length ≤ c.Regs.toNat := srt_len (hi.si k hk) fun x hx => by have := (hi.li k hk x hx).reg h; have := h.h.r0; omega
theorem Inv.regU {c : VFunc} (h : Vd c) {I O : Nat → List Int} (hi : Inv c I O) {k : Nat} (hk : k < c.Blocks.length) {x : Int} (hx : x ∈ U (bk c k) I) : 0 ≤ x ∧ x < c.Regs := by
  obtain ⟨t, h1, h2⟩ := mem_U.1 hx
  exact (hi.li _ (h.suc hk h1) x h2).reg h
theorem Inv.lenU {c : VFunc} (h : Vd c) {I O : Nat → List Int} (hi : Inv c I O) {k : Nat} (hk : k < c.Blocks.length) : (U (bk c k) I).length ≤ c.Regs.toNat := srt_len (srt_U _ _) fun x hx => by have := hi.regU h hk hx; have := h.h.r0; omega
theorem Inv.lenO {c : VFunc} (h : Vd c) {I O : Nat → List Int} (hi : Inv c I O) {k : Nat} (hk : k < c.Blocks.length) : (O k).length ≤ c.Regs.toNat := srt_len (hi.so k hk) fun x hx => by have := hi.regU h hk (hi.oo k hk x hx); have := h.h.r0; omega
theorem Inv.lenB {c : VFunc} (h : Vd c) {I O : Nat → List Int} (hi : Inv c I O) {k : Nat} (hk : k < c.Blocks.length) : (blkIn (bk c k) (U (bk c k) I)).length ≤ c.Regs.toNat := srt_len (srt_blkIn (srt_U _ _)) fun x hx => by have := reg_blkIn h hk (fun x hx => hi.regU h hk hx) hx; have := h.h.r0; omega
theorem Inv.step {c : VFunc} (h : Vd c) {I O : Nat → List Int} (hi : Inv c I O) {k : Nat} (hk : k < c.Blocks.length) : Inv c (fup I k (blkIn (bk c k) (U (bk c k) I))) (fup O k (U (bk c k) I)) := by
  have grow : ∀ j, j < c.Blocks.length → ∀ x, x ∈ I j → x ∈ fup I k (blkIn (bk c k) (U (bk c k) I)) j := fun j hj x hx => by
    by_cases e : j = k
    · subst e; rw [fup_self]; exact hi.ii _ hk x hx
    · rw [fup_ne _ _ e]; exact hx
  have growU : ∀ j, j < c.Blocks.length → ∀ x, x ∈ U (bk c j) I → x ∈ U (bk c j) (fup I k (blkIn (bk c k) (U (bk c k) I))) := fun j hj x hx => by
    obtain ⟨t, h1, h2⟩ := mem_U.1 hx
    exact mem_U.2 ⟨t, h1, grow _ (h.suc hj h1) x h2⟩
  refine ⟨fun j hj => ?_, fun j hj => ?_, fun j hj x hx => ?_, fun j hj x hx => ?_, fun j hj x hx => ?_⟩
  · by_cases e : j = k
    · subst e; rw [fup_self]; exact srt_blkIn (srt_U _ _)
    · rw [fup_ne _ _ e]; exact hi.si j hj
  · by_cases e : j = k
    · subst e; rw [fup_self]; exact srt_U _ _
    · rw [fup_ne _ _ e]; exact hi.so j hj
  · by_cases e : j = k
    · subst e; rw [fup_self] at hx
      rcases mem_blkIn.1 hx with h1 | ⟨h1, h2⟩
      · exact .gen hk h1
      · obtain ⟨t, h3, h4⟩ := mem_U.1 h1
        exact .thru hk h2 h3 (hi.li _ (h.suc hk h3) x h4)
    · rw [fup_ne _ _ e] at hx; exact hi.li j hj x hx
  · by_cases e : j = k
    · subst e; rw [fup_self] at hx; exact growU _ hj x hx
    · rw [fup_ne _ _ e] at hx; exact growU j hj x (hi.oo j hj x hx)
  · by_cases e : j = k
    · subst e; rw [fup_self] at hx; exact blkIn_mono (growU _ hj) hx
    · rw [fup_ne _ _ e] at hx; exact blkIn_mono (growU j hj) (hi.ii j hj x hx)
/-- An ascending list within another of no greater length is that other. -/
theorem srt_sub_len {a b : List Int} (ha : Srt a) (hb : Srt b) (h : ∀ x, x ∈ a → x ∈ b) : a.length ≤ b.length ∧ (a.length = b.length → a = b) := by
  induction b generalizing a with
  | nil =>
    have : a = [] := List.eq_nil_iff_forall_not_mem.2 fun x hx => by simpa using h x hx
    subst this; exact ⟨by simp, fun _ => rfl⟩
  | cons y b ih =>
    cases a with
    | nil => exact ⟨by simp, fun h => by simp at h⟩
    | cons x a =>
      have h1 := List.pairwise_cons.1 ha
      have h2 := List.pairwise_cons.1 hb
      have hsub : ∀ z, z ∈ a → z ∈ b := fun z hz => by
        rcases List.mem_cons.1 (h z (by simp [hz])) with e | e
        · subst e
          exfalso
          have hx := h1.1 _ hz
          rcases List.mem_cons.1 (h x (by simp)) with e2 | e2
          · omega
          · have := h2.1 x e2; omega
        · exact e
      obtain ⟨h3, h4⟩ := ih h1.2 h2.2 hsub
      refine ⟨by simp; omega, fun hl => ?_⟩
      have h5 := h4 (by simpa using hl)
      subst h5
      rcases List.mem_cons.1 (h x (by simp)) with e | e
      · rw [e]
      · exact absurd (h1.1 x e) (by omega)
/-- What has come about when the blocks from j on have been looked at in one pass that began with I0, O0: m tells whether something of what is watched moved. -/
structure Pass (c : VFunc) (I0 I O : Nat → List Int) (m : Bool) (j : Nat) : Prop where
  inv : Inv c I O
  le : tot c.Blocks.length I0 ≤ tot c.Blocks.length I
  same : m = false → (∀ k, k < c.Blocks.length → I k = I0 k) ∧ ∀ k, j ≤ k → k < c.Blocks.length → O k = U (bk c k) I ∧ I k = blkIn (bk c k) (U (bk c k) I)
theorem Pass.done {c : VFunc} (h : Vd c) {I0 I O : Nat → List Int} (hp : Pass c I0 I O false 0) : (∀ k, k < c.Blocks.length → I k = LI c k) ∧ ∀ k, k < c.Blocks.length → O k = LO c k := by
  obtain ⟨h1, h2⟩ := hp.same rfl
  have e := LI_of h (fun k hk => ⟨hp.inv.si k hk, hp.inv.li k hk⟩) (fun k hk => (h2 k (by omega) hk).2)
  refine ⟨e, fun k hk => ?_⟩
  rw [(h2 k (by omega) hk).1]
  exact U_congr fun t ht => e _ (h.suc hk ht)
theorem Pass.next {c : VFunc} (h : Vd c) {I0 I O : Nat → List Int} {m m' : Bool} {j : Nat} (hj : j < c.Blocks.length) (hp : Pass c I0 I O m (j + 1)) (hm : m' = false → m = false ∧ blkIn (bk c j) (U (bk c j) I) = I j) :
    Pass c I0 (fup I j (blkIn (bk c j) (U (bk c j) I))) (fup O j (U (bk c j) I)) m' j := by
  refine ⟨hp.inv.step h hj, ?_, fun hm' => ?_⟩
  · have h1 := tot_fup I hj (blkIn (bk c j) (U (bk c j) I))
    have h2 := (srt_sub_len (hp.inv.si j hj) (srt_blkIn (srt_U _ _)) (hp.inv.ii j hj)).1
    have := hp.le; omega
  · obtain ⟨h1, h2⟩ := hm hm'
    obtain ⟨h3, h4⟩ := hp.same h1
    have e : fup I j (blkIn (bk c j) (U (bk c j) I)) = I := by
      funext k; unfold fup; split
      · rename_i hk; subst hk; exact h2
      · rfl
    rw [e]
    refine ⟨h3, fun k hk1 hk2 => ?_⟩
    by_cases ek : k = j
    · subst ek; rw [fup_self]; exact ⟨rfl, h2.symm⟩
    · rw [fup_ne _ _ ek]; exact h4 k (by omega) hk2
end Go.Proofs.YtocfnpnnbmicmaaDoor.Tc
