/- The plain laws: what the pure functions come to. -/
import Derived.Test.YtocfnpnnbmicmaaDoorZIn7
section
set_option linter.unusedVariables false
set_option linter.unusedSimpArgs false
namespace Go.Proofs.YtocfnpnnbmicmaaDoor.Tc
open Go
def ptB (c : VFunc) (k i : Int) (n : Int) : Bool := (decide (0 ≤ k) && decide (k < (c.Blocks.length : Int))) && (decide (0 ≤ i) && decide (i < ((bk c k.toNat).Instrs.length : Int) + n))
noncomputable def lpA (c : VFunc) (k i : Int) : List Int := lp (bk c k.toNat) (LO c k.toNat) i.toNat
noncomputable def callB (c : VFunc) (s : Spill) : Bool := ptB c s.Block s.Index 0 && (decide (s.Others.length = 0) && (acv (iAt (bk c s.Block.toNat) s.Index.toNat) (lpA c s.Block (s.Index + 1))).contains s.Reg)
def ascB (l : List Int) : Bool := (List.range (l.length - 1)).all (fun i => decide (l.getD i 0 < l.getD (i + 1) 0))
noncomputable def presB (c : VFunc) (e : List Int) (s : Spill) : Bool := ptB c s.Block s.Index 1 && (decide (5 ≤ s.Others.length) && ((lpA c s.Block s.Index).contains s.Reg && (s.Others.all (fun y => (lpA c s.Block s.Index).contains y && !(e.contains y)) && (ascB s.Others && !(s.Others.contains s.Reg)))))
noncomputable def colrB (c : VFunc) (a : Allocation) (s : Spill) : Bool := ((s.Block == 0) && (s.Index == 0)) && (decide (s.Others.length = 5) && (List.range s.Others.length).all (fun k => (IF c s.Reg.toNat).contains (s.Others.getD k 0) && sameL (locA a (s.Others.getD k 0)) ⟨false, (k : Int)⟩))
noncomputable def rsnB (c : VFunc) (a : Allocation) (e : List Int) (s : Spill) : Bool := if s.Reason == 1 then callB c s else if s.Reason == 2 then presB c e s else if s.Reason == 3 then colrB c a s else false
def regOk (c : VFunc) (a : Allocation) (e : List Int) (s : Spill) : Bool := ((decide (0 ≤ s.Reg) && decide (s.Reg < c.Regs)) && !(e.contains s.Reg)) && (locA a s.Reg).InSlot
noncomputable def okS (c : VFunc) (a : Allocation) (e : List Int) (s : Spill) : Bool := regOk c a e s && rsnB c a e s
noncomputable def allS (c : VFunc) (a : Allocation) : List Int → List Spill → Bool
 | _, [] => true
 | e, s :: l => okS c a e s && allS c a (e ++ [s.Reg]) l
def slotsB (c : VFunc) (a : Allocation) : Bool := (List.range c.Regs.toNat).all (fun r : Nat => !(locA a (r : Int)).InSlot || (a.Spills.map Spill.Reg).contains (r : Int))
noncomputable def JB (c : VFunc) (a : Allocation) : Bool := decide ((a.Locations.length : Int) = c.Regs) && (allS c a [] a.Spills && slotsB c a)
theorem allS_to {c : VFunc} {a : Allocation} : ∀ (l : List Spill) (e : List Int), allS c a e l = true → ∀ pre x post, l = pre ++ x :: post → okS c a (e ++ pre.map Spill.Reg) x = true := by
 intro l
 induction l with
 | nil => intro e _ pre x post q; simp at q
 | cons x l ih =>
  intro e h pre y post q
  rw [allS, Bool.and_eq_true] at h
  cases pre with
  | nil => simp at q; simpa [q.1] using h.1
  | cons z pre =>
   simp only [List.cons_append, List.cons.injEq] at q
   have := ih _ h.2 pre y post q.2
   rw [q.1] at this
   simpa using this
theorem lpA_eq (c : VFunc) (k i : Nat) : lpA c (k : Int) (i : Int) = lp (bk c k) (LO c k) i := rfl
theorem slots_count {c : VFunc} {a : Allocation} (h0 : 0 ≤ c.Regs) (h : allS c a [] a.Spills = true) : decide ((((List.range c.Regs.toNat).filter (fun r : Nat => (locA a (r : Int)).InSlot)).length : Nat) = a.Spills.length) = slotsB c a := by
 have hok := fun pre x post e => allS_to _ _ h pre x post e
 have hreg : ∀ x, x ∈ a.Spills → 0 ≤ x.Reg ∧ x.Reg < c.Regs ∧ (locA a x.Reg).InSlot = true := fun x hx => by
  obtain ⟨pre, post, e⟩ := List.append_of_mem hx
  have := hok pre x post e
  unfold okS regOk at this
  simp only [Bool.and_eq_true, decide_eq_true_eq] at this
  exact ⟨this.1.1.1.1, this.1.1.1.2, this.1.2⟩
 have hnd : (a.Spills.map Spill.Reg).Nodup := by
  have : ∀ n, n ≤ a.Spills.length → ((a.Spills.take n).map Spill.Reg).Nodup := by
   intro n
   induction n with
   | zero => intro _; simp
   | succ n ih =>
    intro hn
    have hlt : n < a.Spills.length := hn
    have hsplit : a.Spills = a.Spills.take n ++ a.Spills[n] :: a.Spills.drop (n + 1) := by
     rw [← List.drop_eq_getElem_cons hlt, List.take_append_drop]
    have := hok _ _ _ hsplit
    unfold okS regOk at this
    simp only [Bool.and_eq_true, Bool.not_eq_true', List.nil_append] at this
    have hne : a.Spills[n].Reg ∉ (a.Spills.take n).map Spill.Reg := by simpa using this.1.1.2
    rw [List.take_succ_eq_append_getElem hlt, List.map_append, List.map_cons, List.map_nil, List.nodup_append]
    refine ⟨ih (by omega), by simp, fun x hx y hy e => ?_⟩
    rw [List.mem_singleton.1 hy] at e
    exact hne (e ▸ hx)
  have := this a.Spills.length (Nat.le_refl _)
  rwa [List.take_length] at this
 have hR : ∀ r : Int, r ∈ a.Spills.map Spill.Reg → 0 ≤ r ∧ r < c.Regs ∧ (locA a r).InSlot = true := fun r hr => by
  obtain ⟨x, hx, rfl⟩ := List.mem_map.1 hr
  exact hreg x hx
 have hF : ((List.range c.Regs.toNat).filter (fun r : Nat => (locA a (r : Int)).InSlot)).Nodup := List.Pairwise.filter _ List.nodup_range
 generalize hFl : (List.range c.Regs.toNat).filter (fun r : Nat => (locA a (r : Int)).InSlot) = Fl at hF
 have hFm : ∀ r : Nat, r ∈ Fl ↔ r < c.Regs.toNat ∧ (locA a (r : Int)).InSlot = true := fun r => by rw [← hFl]; simp
 have hmn : ((a.Spills.map Spill.Reg).map Int.toNat).Nodup := by
  rw [List.Nodup, List.pairwise_map]
  refine List.Pairwise.imp_of_mem ?_ hnd
  intro x y hx hy hxy e
  have := hR x hx
  have := hR y hy
  omega
 have hsub : ∀ r, r ∈ (a.Spills.map Spill.Reg).map Int.toNat → r ∈ Fl := fun r hr => by
  obtain ⟨x, hx, rfl⟩ := List.mem_map.1 hr
  have := hR x hx
  rw [hFm, show ((x.toNat : Nat) : Int) = x by omega]
  exact ⟨by omega, this.2.2⟩
 have hle := fun (m l : List Nat) => nodup_le m l
 have hlen : ((a.Spills.map Spill.Reg).map Int.toNat).length = a.Spills.length := by simp
 have l1 := hle _ _ hmn hsub
 rw [Bool.eq_iff_iff, decide_eq_true_iff]
 unfold slotsB
 rw [List.all_eq_true]
 constructor
 ·intro e r hr
  have hr := List.mem_range.1 hr
  cases hs : (locA a (r : Int)).InSlot with
  | false => rfl
  | true =>
   have hin : r ∈ Fl := (hFm r).2 ⟨hr, hs⟩
   by_cases hq : r ∈ (a.Spills.map Spill.Reg).map Int.toNat
   ·obtain ⟨x, hx, e2⟩ := List.mem_map.1 hq
    have := hR x hx
    have : x = (r : Int) := by omega
    subst this
    simpa using hx
   ·have := hle (r :: (a.Spills.map Spill.Reg).map Int.toNat) Fl (List.nodup_cons.2 ⟨hq, hmn⟩) fun x hx => by
     rcases List.mem_cons.1 hx with q | q
     ·rw [q]; exact hin
     ·exact hsub x q
    simp only [List.length_cons] at this
    omega
 ·intro hall
  have := hle Fl ((a.Spills.map Spill.Reg).map Int.toNat) hF fun r hr => by
   obtain ⟨h1, h2⟩ := (hFm r).1 hr
   have := hall r (List.mem_range.2 h1)
   rw [h2] at this
   have hm : (r : Int) ∈ a.Spills.map Spill.Reg := by simpa using this
   exact List.mem_map.2 ⟨_, hm, by simp⟩
  omega
end Go.Proofs.YtocfnpnnbmicmaaDoor.Tc
end
section
set_option linter.unusedVariables false
set_option linter.unusedSimpArgs false
namespace Go.Proofs.YtocfnpnnbmicmaaDoor.Tc
open Go
theorem op13 : (opI 13).ReadsA = false ∧ (opI 13).ReadsB = false ∧ (opI 13).WritesA = true ∧ alw 13 = true := ⟨by kernel_rfl, by kernel_rfl, by kernel_rfl, by kernel_rfl⟩
theorem op38 : (opI 38).ReadsA = false ∧ (opI 38).ReadsB = false ∧ alw 38 = true := ⟨by kernel_rfl, by kernel_rfl, by kernel_rfl⟩
theorem rd_init {v : VInstr} (h : v.Instr.Op = 13 ∨ v.Instr.Op = 38) : rd v = [] ∧ wr v = [v.Instr.A] := by
 unfold rd wr rdRaw
 rcases h with h | h
 ·rw [h, op13.1, op13.2.1, op13.2.2.1, op13.2.2.2]; exact ⟨rfl, rfl⟩
 ·rw [h, op38.1, op38.2.1, op38.2.2]
  refine ⟨rfl, ?_⟩
  have : ((opI 38).WritesA || ((38 : Int) == 6) || ((38 : Int) == 38)) = true := by simp
  rw [this]; rfl
theorem init_foldr {vs : List VInstr} {l : List Int} {x : Int} (h : ∀ v, v ∈ vs → rd v = []) (hx : x ∈ vs.foldr tr l) : ∀ v, v ∈ vs → x ∉ wr v := by
 induction vs with
 | nil => intro v hv; simp at hv
 | cons w vs ih =>
  rcases mem_tr.1 hx with ⟨h1, h2⟩ | h1
  ·intro v hv
   rcases List.mem_cons.1 hv with e | e
   ·rw [e]; exact h2
   ·exact ih (fun v hv => h v (by simp [hv])) h1 v e
  ·rw [h w (by simp)] at h1; simp at h1
theorem LI0_nil {c : VFunc} (h : Vd c) {pre rest : List VInstr} (e : (bk c 0).Instrs = pre ++ rest) (hr : ∀ v, v ∈ pre → rd v = []) (hw : ∀ x : Int, 0 ≤ x → x < c.Regs → ∃ v, v ∈ pre ∧ x ∈ wr v) : LI c 0 = [] := by
 have hb := h.h.b0
 refine List.eq_nil_iff_forall_not_mem.2 fun x hx => ?_
 have hreg := (RS.LI h 0).r x hx
 rw [LI_eq h (by omega)] at hx
 unfold blkIn at hx
 rw [e, List.foldr_append] at hx
 obtain ⟨v, hv, hxw⟩ := hw x hreg.1 hreg.2
 exact init_foldr hr hx v hv hxw
theorem iv0_rd {p : Int} {r : Nat} : rd (iv0 p r) = [] ∧ wr (iv0 p r) = [(r : Int)] := rd_init (v := iv0 p r) (by
 show (if (r : Int) < p then (38 : Int) else 13) = 13 ∨ (if (r : Int) < p then (38 : Int) else 13) = 38
 split
 ·exact .inr rfl
 ·exact .inl rfl)
theorem VF.li0 {p : Int} {c : VFunc} (h : VF p c) : LI c 0 = [] := by
 have h0 := h.p0
 have hr := h.hr
 refine LI0_nil h.vd (pre := (List.range (9 + p.toNat)).map (iv0 p)) (rest := []) (by rw [h.b0]; simp [firstB]) (fun v hv => ?_) fun x hx0 hx1 => ?_
 ·obtain ⟨r, _, rfl⟩ := List.mem_map.1 hv
  exact iv0_rd.1
 ·refine ⟨iv0 p x.toNat, List.mem_map.2 ⟨x.toNat, List.mem_range.2 (by omega), rfl⟩, ?_⟩
  rw [iv0_rd.2]; simp; omega
theorem acv_nil {v : VInstr} (h : v.Instr.Op ≠ 6) (l : List Int) : acv v l = [] := by
 unfold acv
 have : (v.Instr.Op == 6) = false := by simpa using h
 rw [this]; rfl
end Go.Proofs.YtocfnpnnbmicmaaDoor.Tc
end
section
set_option linter.unusedVariables false
set_option linter.unusedSimpArgs false
namespace Go.Proofs.YtocfnpnnbmicmaaDoor.Tc
open Go
theorem rng_get {n i x : Nat} (h : (List.range n)[i]? = some x) : x = i ∧ i < n := by
 rcases Nat.lt_or_ge i n with q | q
 ·rw [List.getElem?_range q] at h; exact ⟨(Option.some.inj h).symm, q⟩
 ·rw [List.getElem?_eq_none (by simpa using q)] at h; cases h
end Go.Proofs.YtocfnpnnbmicmaaDoor.Tc
end
section
set_option linter.unusedVariables false
set_option linter.unusedSimpArgs false
namespace Go.Proofs.YtocfnpnnbmicmaaDoor.Tc
open Go
theorem al_slots {c : VFunc} (h : Vd c) : c.Params ≤ (fin4 c).2 ∧ (fin4 c).2 ≤ c.Params + c.Regs := (alc h).s
theorem al_ok {c : VFunc} (h : Vd c) (h0 : LI c 0 = []) (hs : c.Params + c.Regs ≤ 3000) : AL c = (ALa c, 0) := by
 have := al_slots h
 unfold AL
 rw [h0, if_neg (by simp), if_neg (by omega)]
theorem VF.al {p : Int} {c : VFunc} (h : VF p c) : AL c = (ALa c, 0) := al_ok h.vd h.li0 (by have := h.hp; have := h.hr; have := h.p2; omega)
end Go.Proofs.YtocfnpnnbmicmaaDoor.Tc
end
section
set_option linter.unusedVariables false
set_option linter.unusedSimpArgs false
namespace Go.Proofs.YtocfnpnnbmicmaaDoor.Tc
open Go
structure SmA (a : Allocation) : Prop where
 s : a.Spills.length ≤ 17592186044000
 o : ∀ s, s ∈ a.Spills → s.Others.length ≤ 17592186044000
theorem ev_acontains {l : List Int} {x : Int} (hl : Sm l) : Ev (fun K _ => alloccheck_contains K l x) (l.contains x) := by
 have h1 : Ev (fun K k => alloccheck_contains_l1 K l x k 0) (if l.all (fun y => !(y == x)) then .inl () else .inr true) :=
  ev_all l (fun K k i => alloccheck_contains_l1 K l x k i) (fun y => !(y == x)) true (Ev.step (fun K k => rfl) (Ev.f (by simp) (Ev.inn ())))
   (fun i y hy hi => ⟨fun ht r hr => Ev.step (fun K k => rfl) (Ev.t (by simpa using hi) (Ev.bindO (idx_eq hy) (Ev.f (by simpa using ht) (by rw [w64_succ (i := i) (by unfold Sm at hl; omega)]; exact hr)))), fun ht => Ev.step (fun K k => rfl) (Ev.t (by simpa using hi) (Ev.bindO (idx_eq hy) (Ev.t (by simpa using ht) (Ev.out (Ev.some true)))))⟩)
 have e : l.contains x = !(l.all (fun y => !(y == x))) := by
  rw [Bool.eq_iff_iff]
  simp only [List.contains_iff_mem, Bool.not_eq_true', ← Bool.not_eq_true, List.all_eq_true]
  constructor
  ·intro h q; have := q x h; simp at this
  ·intro h
   refine Decidable.byContradiction fun q => h fun y hy => ?_
   have : y ≠ x := fun e => q (e ▸ hy)
   simpa using this
 unfold alloccheck_contains
 rw [e]
 cases hc : l.all (fun y => !(y == x)) with
 | true => rw [hc] at h1; exact Ev.sql (Ev.loop h1) (Ev.some _)
 | false => rw [hc] at h1; exact Ev.sqr (Ev.loop h1)
abbrev Memo := List (Int × List (List Int))
def MP (c : VFunc) (m : Memo) : Prop := ∀ k y, mget m k = some y → y = LPs c k.toNat
theorem mget_put {m : Memo} {k k' : Int} {y : List (List Int)} (h : mget m k = none) : mget (mput m k y) k' = if k' = k then some y else mget m k' := by
 have ha : m.any (fun p => p.1 == k) = false := by
  rw [Bool.eq_false_iff]
  intro q
  obtain ⟨p, hp, hk⟩ := List.any_eq_true.1 q
  unfold mget at h
  rw [Option.map_eq_none_iff, List.find?_eq_none] at h
  exact h p hp hk
 unfold mput
 rw [ha, if_neg (by simp)]
 unfold mget at h ⊢
 rw [List.find?_append]
 by_cases e : k' = k
 ·subst e
  rw [if_pos rfl]
  rw [Option.map_eq_none_iff] at h
  rw [h]; simp
 ·rw [if_neg e]
  have : (k == k') = false := by simpa using Ne.symm e
  cases m.find? (fun p => p.1 == k') <;> simp [List.find?_cons, this]
theorem MP.put {c : VFunc} {m : Memo} (h : MP c m) {k : Nat} (hk : mget m (k : Int) = none) : MP c (mput m (k : Int) (LPs c k)) := fun k' y hy => by
 rw [mget_put hk] at hy
 by_cases e : k' = (k : Int)
 ·subst e; rw [if_pos rfl] at hy; exact (Option.some.inj hy).symm
 ·rw [if_neg e] at hy; exact h k' y hy
theorem LPs_idx {c : VFunc} {k i : Nat} (h : i ≤ (bk c k).Instrs.length) : idx (LPs c k) (i : Int) = some (lp (bk c k) (LO c k) i) := idx_eq (by unfold LPs lps; rw [List.getElem?_map, List.getElem?_range (by omega)]; rfl)
theorem ev_pat {c : VFunc} (h : Vd c) {m : Memo} (hm : MP c m) {k i : Nat} (hk : k < c.Blocks.length) (hi : i ≤ (bk c k).Instrs.length) : ∃ m', MP c m' ∧ Ev (fun K _ => alloccheck_points_at K (⟨c, m⟩ : AlloccheckPoints) (k : Int) (i : Int)) (lp (bk c k) (LO c k) i, m') := by
 unfold alloccheck_points_at
 cases hg : mget m (k : Int) with
 | none => exact ⟨mput m (k : Int) (LPs c k), hm.put hg, Ev.bind (x := (LPs c k, mput m (k : Int) (LPs c k))) (Ev.t rfl (Ev.bind (ev_ppoints h hk) (Ev.some _))) (Ev.bindO (LPs_idx hi) (Ev.some _))⟩
 | some y =>
  have := hm _ _ hg
  rw [Int.toNat_natCast] at this
  subst this
  exact ⟨m, hm, Ev.bind (x := (LPs c k, m)) (Ev.f rfl (Ev.some _)) (Ev.bindO (LPs_idx hi) (Ev.some _))⟩
theorem lp_sm {c : VFunc} (h : Vd c) {k : Nat} (hk : k < c.Blocks.length) (i : Nat) : RS c (lp (bk c k) (LO c k) i) ∧ Sm (lp (bk c k) (LO c k) i) := by
 have hl := RS.lp (h.iv hk) (h.e hk) (RS.LO h k) i
 have := hl.len h
 exact ⟨hl, by unfold Sm; omega⟩
theorem ev_place {c : VFunc} {s : Spill} {n : Int} {q : Bool} {b : Block → Bool} (hb : ∀ y, idx c.Blocks s.Block = some y → b y = (decide (s.Index ≥ (y.Instrs.length : Int) + n) || q)) : Ev (fun (K k : Nat) => cnd (decide (s.Block < 0)) (some true) (cnd (decide (s.Block ≥ ((c.Blocks).length : Int))) (some true) (cnd (decide (s.Index < 0)) (some true) (Option.bind (idx c.Blocks s.Block) (fun y12 => (some (b y12))))))) (!(ptB c s.Block s.Index n) || q) := by
 unfold ptB
 by_cases h1 : s.Block < 0
 ·refine Ev.t (by simpa using h1) ((Ev.some _).cast ?_)
  have : decide (0 ≤ s.Block) = false := by simpa using h1
  rw [this]; simp
 ·refine Ev.f (by simpa using h1) ?_
  have e1 : decide (0 ≤ s.Block) = true := by simp; omega
  by_cases h2 : s.Block ≥ (c.Blocks.length : Int)
  ·refine Ev.t (by simpa using h2) ((Ev.some _).cast ?_)
   have : decide (s.Block < (c.Blocks.length : Int)) = false := by simp; omega
   rw [this]; simp
  ·refine Ev.f (by simpa using h2) ?_
   have e2 : decide (s.Block < (c.Blocks.length : Int)) = true := by simp; omega
   by_cases h3 : s.Index < 0
   ·refine Ev.t (by simpa using h3) ((Ev.some _).cast ?_)
    have : decide (0 ≤ s.Index) = false := by simpa using h3
    rw [this]; simp
   ·refine Ev.f (by simpa using h3) ?_
    have e3 : decide (0 ≤ s.Index) = true := by simp; omega
    have hk : s.Block.toNat < c.Blocks.length := by omega
    have ek := bk_idx hk
    rw [show ((s.Block.toNat : Nat) : Int) = s.Block by omega] at ek
    refine Ev.bindO ek ((Ev.some _).cast ?_)
    rw [hb _ ek, e1, e2, e3]
    simp only [Bool.true_and]
    congr 1
    rw [Bool.eq_iff_iff]; simp
theorem ptB_to {c : VFunc} {s : Spill} {n : Int} (h : ptB c s.Block s.Index n = true) : ∃ k i : Nat, s.Block = (k : Int) ∧ s.Index = (i : Int) ∧ k < c.Blocks.length ∧ (i : Int) < ((bk c k).Instrs.length : Int) + n := by
 unfold ptB at h
 simp only [Bool.and_eq_true, decide_eq_true_eq] at h
 exact ⟨s.Block.toNat, s.Index.toNat, by omega, by omega, by omega, by omega⟩
theorem ev_acall {c : VFunc} (h : Vd c) {m : Memo} (hm : MP c m) (s : Spill) : ∃ m', MP c m' ∧ Ev (fun K _ => alloccheck_acrossCall K (⟨c, m⟩ : AlloccheckPoints) s) (callB c s, m') := by
 have e0 := ev_place (c := c) (s := s) (n := 0) (q := decide (((s.Others).length : Int) > 0)) (b := fun y => decide (s.Index ≥ (y.Instrs.length : Int)) || decide (((s.Others).length : Int) > 0)) (fun y hy => by simp)
 unfold alloccheck_acrossCall
 cases hp : ptB c s.Block s.Index 0 with
 | false =>
  rw [hp] at e0
  refine ⟨m, hm, Ev.bind e0 (Ev.t rfl ((Ev.some _).cast ?_))⟩
  unfold callB; rw [hp]; rfl
 | true =>
  rw [hp] at e0
  cases ho : decide (((s.Others).length : Int) > 0) with
  | true =>
   rw [ho] at e0
   refine ⟨m, hm, Ev.bind e0 (Ev.t rfl ((Ev.some _).cast ?_))⟩
   have : decide (s.Others.length = 0) = false := by have := of_decide_eq_true ho; simp; intro q; rw [q] at this; simp at this
   unfold callB; rw [hp, this]; rfl
  | false =>
   rw [ho] at e0
   obtain ⟨k, i, ek, ei, hk, hi⟩ := ptB_to hp
   have hi : i < (bk c k).Instrs.length := by omega
   have hv := h.ia hk hi
   have hlen := h.len hk
   have eb : callB c s = (acv (iAt (bk c k) i) (lp (bk c k) (LO c k) (i + 1))).contains s.Reg := by
    have : decide (s.Others.length = 0) = true := by have := of_decide_eq_false ho; simp; cases hh : s.Others with | nil => rfl | cons _ _ => rw [hh] at this; simp at this
    have e1 : ((i : Int) + 1) = ((i + 1 : Nat) : Int) := by omega
    unfold callB
    rw [hp, this, ek, ei, e1, lpA_eq]
    simp
   have e1 : idx c.Blocks s.Block = some (bk c k) := by rw [ek]; exact bk_idx hk
   have e2 : idx (bk c k).Instrs s.Index = some (iAt (bk c k) i) := by rw [ei]; exact idx_eq (iAt_get hi)
   obtain ⟨hl, hsm⟩ := lp_sm h hk (i + 1)
   by_cases h6 : (iAt (bk c k) i).Instr.Op = 6
   ·obtain ⟨m', hm', ep⟩ := ev_pat h hm hk (i := i + 1) (by omega)
    have ew : w64 (s.Index + 1) = ((i + 1 : Nat) : Int) := by rw [ei]; exact w64_succ (by omega)
    have hac : callB c s = ((iAt (bk c k) i).Args.contains s.Reg || ((iAt (bk c k) i).Instr.A != s.Reg && (lp (bk c k) (LO c k) (i + 1)).contains s.Reg)) := by
     rw [eb, acv_args h6 hl.s, Bool.eq_iff_iff]
     simp only [List.contains_iff_mem, mem_uni, mem_mns, List.mem_singleton, Bool.or_eq_true, Bool.and_eq_true, bne_iff_ne]
     constructor
     ·rintro (⟨q1, q2⟩ | q)
      ·exact .inr ⟨fun e => q2 e.symm, q1⟩
      ·exact .inl q
     ·rintro (q | ⟨q1, q2⟩)
      ·exact .inr q
      ·exact .inl ⟨q2, fun e => q1 e.symm⟩
    rw [hac]
    have hn := hv.n
    have ec := ev_acontains (l := (iAt (bk c k) i).Args) (x := s.Reg) (by unfold Sm; omega)
    cases hc : (iAt (bk c k) i).Args.contains s.Reg with
    | true =>
     rw [hc] at ec
     exact ⟨m, hm, Ev.bind e0 (Ev.f rfl (Ev.bindO e1 (Ev.bindO e2 (Ev.f (by simp [h6]) (Ev.bind (x := (true, m)) (Ev.bind ec (Ev.t rfl (Ev.some _))) (Ev.some _))))))⟩
    | false =>
     rw [hc] at ec
     by_cases hA : (iAt (bk c k) i).Instr.A = s.Reg
     ·refine ⟨m, hm, Ev.bind e0 (Ev.f rfl (Ev.bindO e1 (Ev.bindO e2 (Ev.f (by simp [h6]) (Ev.bind (x := (false, m)) (Ev.bind ec (Ev.f rfl (Ev.f (by simp [hA]) (Ev.some _)))) ((Ev.some _).cast ?_))))))⟩
      have : ((iAt (bk c k) i).Instr.A != s.Reg) = false := by simp [hA]
      rw [this]; rfl
     ·have hne : ((iAt (bk c k) i).Instr.A != s.Reg) = true := by simpa using hA
      rw [← ek, ← ew] at ep
      refine ⟨m', hm', Ev.bind e0 (Ev.f rfl (Ev.bindO e1 (Ev.bindO e2 (Ev.f (by simp [h6]) (Ev.bind (x := ((lp (bk c k) (LO c k) (i + 1)).contains s.Reg, m')) (Ev.bind ec (Ev.f rfl (Ev.t hne (Ev.bind ep (Ev.bind (ev_acontains hsm) (Ev.some _)))))) ((Ev.some _).cast ?_))))))⟩
      rw [hne]; rfl
   ·refine ⟨m, hm, Ev.bind e0 (Ev.f rfl (Ev.bindO e1 (Ev.bindO e2 (Ev.t (by simpa using h6) ((Ev.some _).cast ?_)))))⟩
    rw [eb, acv_nil h6]; rfl
structure HS (c : VFunc) (e : List Int) (sp : List Bool) : Prop where
 l : sp.length = c.Regs.toNat
 b : ∀ y : Int, 0 ≤ y → y < c.Regs → isSp sp y = e.contains y
theorem ev_apres {c : VFunc} (h : Vd c) {m : Memo} (hm : MP c m) {e : List Int} {sp : List Bool} (hs : HS c e sp) {s : Spill} (ho : s.Others.length ≤ 17592186044000) : ∃ m', MP c m' ∧ Ev (fun K _ => alloccheck_pressure K (⟨c, m⟩ : AlloccheckPoints) s sp) (presB c e s, m', sp) := by
 have e0 := ev_place (c := c) (s := s) (n := 1) (q := decide (((s.Others).length : Int) < 5)) (b := fun y => decide (s.Index > (y.Instrs.length : Int)) || decide (((s.Others).length : Int) < 5)) (fun y hy => rfl)
 unfold alloccheck_pressure
 cases hp : ptB c s.Block s.Index 1 with
 | false =>
  rw [hp] at e0
  refine ⟨m, hm, Ev.bind e0 (Ev.t rfl ((Ev.some _).cast ?_))⟩
  unfold presB; rw [hp]; rfl
 | true =>
  rw [hp] at e0
  cases hq : decide (((s.Others).length : Int) < 5) with
  | true =>
   rw [hq] at e0
   refine ⟨m, hm, Ev.bind e0 (Ev.t rfl ((Ev.some _).cast ?_))⟩
   have : decide (5 ≤ s.Others.length) = false := by have := of_decide_eq_true hq; simp; omega
   unfold presB; rw [hp, this]; rfl
  | false =>
   rw [hq] at e0
   obtain ⟨k, i, ek, ei, hk, hi⟩ := ptB_to hp
   have hi : i ≤ (bk c k).Instrs.length := by omega
   obtain ⟨hl, hsm⟩ := lp_sm h hk i
   obtain ⟨m', hm', ep⟩ := ev_pat h hm hk hi
   have eb : presB c e s = ((lp (bk c k) (LO c k) i).contains s.Reg && (s.Others.all (fun y => (lp (bk c k) (LO c k) i).contains y && !(e.contains y)) && (ascB s.Others && !(s.Others.contains s.Reg)))) := by
    have : decide (5 ≤ s.Others.length) = true := by have := of_decide_eq_false hq; simp; omega
    unfold presB
    rw [hp, this, ek, ei, lpA_eq]; rfl
   rw [eb]
   rw [← ek, ← ei] at ep
   cases hr : (lp (bk c k) (LO c k) i).contains s.Reg with
   | false =>
    have ec := ev_acontains (x := s.Reg) hsm
    rw [hr] at ec
    exact ⟨m', hm', Ev.bind e0 (Ev.f rfl (Ev.bind ep (Ev.bind ec (Ev.t rfl (Ev.some _)))))⟩
   | true =>
    have ec := ev_acontains (x := s.Reg) hsm
    rw [hr] at ec
    let T : Nat → Bool := fun j => !(((decide (0 < j) && decide (s.Others.getD (j - 1) 0 ≥ s.Others.getD j 0)) || (s.Others.getD j 0 == s.Reg)) || (!((lp (bk c k) (LO c k) i).contains (s.Others.getD j 0)) || e.contains (s.Others.getD j 0)))
    have e1 : Ev (fun K n => alloccheck_pressure_l1 K s sp (lp (bk c k) (LO c k) i, m') n 0) (if (List.range s.Others.length).all T then .inl () else .inr (false, m', sp)) :=
     ev_all (List.range s.Others.length) (fun K n j => alloccheck_pressure_l1 K s sp (lp (bk c k) (LO c k) i, m') n j) T (false, m', sp) (Ev.step (fun K k => rfl) (Ev.f (by simp) (Ev.inn ())))
      (fun j x hx hj => by
       obtain ⟨rfl, hj⟩ := rng_get hx
       have eg : idx s.Others (x : Int) = some (s.Others.getD x 0) := by rw [idx_get hj, List.getD_eq_getElem?_getD, List.getElem?_eq_getElem hj]; rfl
       have b1 : Ev (fun (K n : Nat) => cnd (decide ((x : Int) > 0)) (Option.bind (idx s.Others (w64 ((x : Int) - 1))) (fun y36 => (some (decide (y36 ≥ (s.Others.getD x 0)))))) (some false)) (decide (0 < x) && decide (s.Others.getD (x - 1) 0 ≥ s.Others.getD x 0)) := by
        cases hx0 : decide (0 < x) with
        | false => exact Ev.f (by simpa using hx0) (Ev.some _)
        | true =>
         have hx0 := of_decide_eq_true hx0
         have hw : w64 ((x : Int) - 1) = ((x - 1 : Nat) : Int) := by rw [w64_id (by omega) (by omega)]; omega
         have eg2 : idx s.Others ((x - 1 : Nat) : Int) = some (s.Others.getD (x - 1) 0) := by rw [idx_get (by omega), List.getD_eq_getElem?_getD, List.getElem?_eq_getElem (by omega)]; rfl
         rw [← hw] at eg2
         exact Ev.t (by simp; omega) (Ev.bindO eg2 (Ev.some _))
       have b2 : ∀ z : Bool, Ev (fun (K n : Nat) => cnd (z || (s.Others.getD x 0 == s.Reg)) (some true) (Option.bind (alloccheck_contains K (lp (bk c k) (LO c k) i) (s.Others.getD x 0)) (fun r43 => (some (!r43))))) ((z || (s.Others.getD x 0 == s.Reg)) || !((lp (bk c k) (LO c k) i).contains (s.Others.getD x 0))) := fun z => by
        cases hz : (z || (s.Others.getD x 0 == s.Reg)) with
        | true => exact Ev.t rfl (Ev.some _)
        | false => exact Ev.f rfl (Ev.bind (ev_acontains hsm) (Ev.some _))
       have b3 : ∀ z : Bool, (z = false → (lp (bk c k) (LO c k) i).contains (s.Others.getD x 0) = true) → Ev (fun (K n : Nat) => cnd z (some true) (Option.bind (idx sp (s.Others.getD x 0)) (fun y49 => (some y49)))) (z || e.contains (s.Others.getD x 0)) := fun z hz => by
        cases z with
        | true => exact Ev.t rfl (Ev.some _)
        | false =>
         have hm := hl.r _ (List.contains_iff_mem.1 (hz rfl))
         have := isSp_idx (sp := sp) hm.1 (by rw [hs.l]; omega)
         rw [hs.b _ hm.1 hm.2] at this
         exact Ev.f rfl (Ev.bindO this (Ev.some _))
       have b4 := b3 (((decide (0 < x) && decide (s.Others.getD (x - 1) 0 ≥ s.Others.getD x 0)) || (s.Others.getD x 0 == s.Reg)) || !((lp (bk c k) (LO c k) i).contains (s.Others.getD x 0))) (fun q => by
        rw [Bool.or_eq_false_iff] at q; simpa using q.2)
       have et : T x = !((((decide (0 < x) && decide (s.Others.getD (x - 1) 0 ≥ s.Others.getD x 0)) || (s.Others.getD x 0 == s.Reg)) || !((lp (bk c k) (LO c k) i).contains (s.Others.getD x 0))) || e.contains (s.Others.getD x 0)) := by
        simp only [T, Bool.or_assoc]
       refine ⟨fun ht r hr => ?_, fun ht => ?_⟩
       ·rw [et, Bool.not_eq_true'] at ht
        rw [ht] at b4
        refine Ev.step (fun K k => rfl) (Ev.t (by simpa using hj) (Ev.bindO eg (Ev.bind b1 (Ev.bind (b2 _) (Ev.bind b4 (Ev.f rfl ?_))))))
        rw [w64_succ (i := x) (by omega)]; exact hr
       ·rw [et, Bool.not_eq_false'] at ht
        rw [ht] at b4
        exact Ev.step (fun K k => rfl) (Ev.t (by simpa using hj) (Ev.bindO eg (Ev.bind b1 (Ev.bind (b2 _) (Ev.bind b4 (Ev.t rfl (Ev.out (Ev.some _)))))))))
    have eT : (List.range s.Others.length).all T = (s.Others.all (fun y => (lp (bk c k) (LO c k) i).contains y && !(e.contains y)) && (ascB s.Others && !(s.Others.contains s.Reg))) := by
     have hget : ∀ j, j < s.Others.length → s.Others[j]? = some (s.Others.getD j 0) := fun j hj => by rw [List.getD_eq_getElem?_getD, List.getElem?_eq_getElem hj]; rfl
     have hmm : ∀ y, y ∈ s.Others ↔ ∃ j, j < s.Others.length ∧ y = s.Others.getD j 0 := fun y => by
      constructor
      ·intro hy
       obtain ⟨j, hj, e⟩ := List.mem_iff_getElem.1 hy
       refine ⟨j, hj, ?_⟩
       have := hget j hj
       rw [List.getElem?_eq_getElem hj, e] at this
       exact Option.some.inj this
      ·rintro ⟨j, hj, rfl⟩
       exact List.mem_of_getElem? (hget j hj)
     rw [Bool.eq_iff_iff]
     unfold ascB
     simp only [T, Bool.and_eq_true, List.all_eq_true, List.mem_range, Bool.not_eq_true', Bool.or_eq_false_iff, Bool.not_eq_false', List.contains_iff_mem, decide_eq_true_eq, Bool.and_eq_false_iff, decide_eq_false_iff_not, beq_eq_false_iff_ne, List.contains_eq_mem]
     constructor
     ·intro ht
      refine ⟨fun y hy => ?_, fun j hj => ?_, fun hr => ?_⟩
      ·obtain ⟨j, hj, rfl⟩ := (hmm y).1 hy
       exact (ht j hj).2
      ·have := (ht (j + 1) (by omega)).1.1
       rw [Nat.add_sub_cancel] at this
       omega
      ·obtain ⟨j, hj, e⟩ := (hmm _).1 hr
       exact (ht j hj).1.2 e.symm
     ·rintro ⟨h1, h2, h3⟩ j hj
      refine ⟨⟨?_, fun e => h3 ((hmm _).2 ⟨j, hj, e.symm⟩)⟩, h1 _ ((hmm _).2 ⟨j, hj, rfl⟩)⟩
      by_cases hj0 : 0 < j
      ·right
       have := h2 (j - 1) (by omega)
       rw [Nat.sub_add_cancel hj0] at this
       omega
      ·exact .inl hj0
    rw [Bool.true_and, ← eT]
    refine ⟨m', hm', Ev.bind e0 (Ev.f rfl (Ev.bind ep (Ev.bind ec (Ev.f rfl ?_))))⟩
    cases hT : (List.range s.Others.length).all T with
    | true => rw [hT] at e1; exact Ev.sql (Ev.loop e1) (Ev.some _)
    | false => rw [hT] at e1; exact Ev.sqr (Ev.loop e1)
theorem ev_acol {c : VFunc} (h : Vd c) {a : Allocation} (hl : (a.Locations.length : Int) = c.Regs) {s : Spill} (hr : 0 ≤ s.Reg ∧ s.Reg < c.Regs) : Ev (fun K _ => alloccheck_coloring K c a s (IF c s.Reg.toNat)) (colrB c a s) := by
 have g := gr_IF h
 have hlen := (g.s s.Reg.toNat).len h
 unfold alloccheck_coloring colrB
 by_cases hh : (s.Block = 0 ∧ s.Index = 0) ∧ s.Others.length = 5
 ·obtain ⟨⟨h1, h2⟩, h3⟩ := hh
  have e1 : Ev (fun K n => alloccheck_coloring_l1 K a s (IF c s.Reg.toNat) n 0) (if (List.range s.Others.length).all (fun k => (IF c s.Reg.toNat).contains (s.Others.getD k 0) && sameL (locA a (s.Others.getD k 0)) ⟨false, (k : Int)⟩) then .inl () else .inr false) :=
   ev_all (List.range s.Others.length) (fun K n j => alloccheck_coloring_l1 K a s (IF c s.Reg.toNat) n j) _ false (Ev.step (fun K k => rfl) (Ev.f (by simp) (Ev.inn ())))
    (fun j x hx hj => by
     obtain ⟨rfl, hj⟩ := rng_get hx
     have eg : idx s.Others (x : Int) = some (s.Others.getD x 0) := by rw [idx_get hj, List.getD_eq_getElem?_getD, List.getElem?_eq_getElem hj]; rfl
     have b1 : Ev (fun (K n : Nat) => cnd (!((IF c s.Reg.toNat).contains (s.Others.getD x 0))) (some true) (Option.bind (idx a.Locations (s.Others.getD x 0)) (fun y23 => (some (!((y23.InSlot == false) && (y23.Index == (x : Int)))))))) (!((IF c s.Reg.toNat).contains (s.Others.getD x 0) && sameL (locA a (s.Others.getD x 0)) ⟨false, (x : Int)⟩)) := by
      cases hc : (IF c s.Reg.toNat).contains (s.Others.getD x 0) with
      | false => exact Ev.t rfl (Ev.some _)
      | true =>
       have hm := (g.s s.Reg.toNat).r _ (List.contains_iff_mem.1 hc)
       exact Ev.f rfl (Ev.bindO (locA_idx (a := a) hm.1 (by omega)) (Ev.some _))
     have ec := ev_acontains (l := IF c s.Reg.toNat) (x := s.Others.getD x 0) (by unfold Sm; omega)
     refine ⟨fun ht r hr => ?_, fun ht => ?_⟩
     ·rw [ht] at b1
      refine Ev.step (fun K k => rfl) (Ev.t (by simpa using hj) (Ev.bindO eg (Ev.bind ec (Ev.bind b1 (Ev.f rfl ?_)))))
      rw [w64_succ (i := x) (by omega)]; exact hr
     ·rw [ht] at b1
      exact Ev.step (fun K k => rfl) (Ev.t (by simpa using hj) (Ev.bindO eg (Ev.bind ec (Ev.bind b1 (Ev.t rfl (Ev.out (Ev.some false))))))))
  have eh : ((s.Block == 0) && (s.Index == 0)) = true := by rw [h1, h2]; rfl
  rw [eh, h3, Bool.true_and]
  rw [h3] at e1
  refine Ev.f (by rw [h1, h2]; rfl) ?_
  cases hT : (List.range 5).all (fun k => (IF c s.Reg.toNat).contains (s.Others.getD k 0) && sameL (locA a (s.Others.getD k 0)) ⟨false, (k : Int)⟩) with
  | true => rw [hT] at e1; exact Ev.sql (Ev.loop e1) (Ev.some _)
  | false => rw [hT] at e1; exact Ev.sqr (Ev.loop e1)
 ·have ef : (((s.Block == 0) && (s.Index == 0)) && decide (s.Others.length = 5)) = false := by
   rw [Bool.eq_false_iff]; intro q; apply hh; simpa using q
  refine Ev.t ?_ ((Ev.some _).cast ?_)
  ·rw [Bool.eq_false_iff] at ef
   rw [← Bool.not_eq_false]
   intro q
   apply ef
   simp only [Bool.or_eq_false_iff, bne_eq_false_iff_eq] at q
   simp [q.1.1, q.1.2]; omega
  ·rw [← Bool.and_assoc, ef]; rfl
theorem HS.next {c : VFunc} {e : List Int} {sp : List Bool} (h : HS c e sp) {r : Int} (h0 : 0 ≤ r) (h1 : r < c.Regs) : HS c (e ++ [r]) (sp.set r.toNat true) := ⟨by simp [h.l], fun y hy0 hy1 => by
 have hl := h.l
 rw [isSp_set h0 (by omega) hy0, h.b y hy0 hy1, Bool.eq_iff_iff]
 simp⟩
theorem okS_and {c : VFunc} {a : Allocation} {e : List Int} {s : Spill} : okS c a e s = (regOk c a e s && rsnB c a e s) := rfl
theorem aju_l1 {c : VFunc} (h : Vd c) {a : Allocation} (hl : (a.Locations.length : Int) = c.Regs) (hsm : SmA a) : ∀ (n i : Nat) (m : Memo) (sp : List Bool) (e : List Int), i + n = a.Spills.length → MP c m → HS c e sp → ∃ m' sp', (allS c a e (a.Spills.drop i) = true → HS c (e ++ (a.Spills.drop i).map Spill.Reg) sp') ∧ Ev (fun K k => alloccheck_Justified_l1 K c a (IFs c) k ((i : Int), m, sp)) (if allS c a e (a.Spills.drop i) then .inl (m', sp') else .inr false) := by
 intro n
 induction n with
 | zero =>
  intro i m sp e hi hm hs
  rw [List.drop_eq_nil_of_le (by omega)]
  exact ⟨m, sp, fun _ => by simpa using hs, Ev.step (fun K k => rfl) (Ev.f (by simp; omega) (Ev.inn _))⟩
 | succ n ih =>
  intro i m sp e hi hm hs
  have hss := hsm.s
  have hlt : i < a.Spills.length := by omega
  have hg := idx_get hlt
  have hmem := List.getElem_mem hlt
  rw [drop_get hlt]
  generalize a.Spills[i] = s at hg hmem
  have hso := hsm.o s hmem
  -- the head's test
  have b1 : Ev (fun (K k : Nat) => Option.bind (cnd ((decide (s.Reg < 0)) || (decide (s.Reg ≥ c.Regs))) (some true) (Option.bind (idx sp s.Reg) (fun y30 => (some y30)))) (fun z27 => cnd z27 (some true) (Option.bind (idx a.Locations s.Reg) (fun y36 => (some (!y36.InSlot)))))) (!(regOk c a e s)) := by
   unfold regOk
   cases hc : ((decide (s.Reg < 0)) || (decide (s.Reg ≥ c.Regs))) with
   | true =>
    have : (decide (0 ≤ s.Reg) && decide (s.Reg < c.Regs)) = false := by
     rw [Bool.eq_false_iff]; intro q; simp at q hc; omega
    rw [this]
    exact Ev.bind (Ev.t rfl (Ev.some _)) (Ev.t rfl (Ev.some _))
   | false =>
    have hc2 : 0 ≤ s.Reg ∧ s.Reg < c.Regs := by simp at hc; omega
    have : (decide (0 ≤ s.Reg) && decide (s.Reg < c.Regs)) = true := by simpa using hc2
    rw [this, Bool.true_and]
    have e1 := isSp_idx (sp := sp) hc2.1 (by rw [hs.l]; omega)
    rw [hs.b _ hc2.1 hc2.2] at e1
    refine Ev.bind (Ev.f rfl (Ev.bindO e1 (Ev.some _))) ?_
    cases he : e.contains s.Reg with
    | true => exact Ev.t rfl (Ev.some _)
    | false => exact Ev.f rfl (Ev.bindO (locA_idx (a := a) hc2.1 (by omega)) (Ev.some _))
  obtain ⟨z, hz1, hz2⟩ : ∃ z, Ev (fun (K k : Nat) => cnd ((decide (s.Reg < 0)) || (decide (s.Reg ≥ c.Regs))) (some true) (Option.bind (idx sp s.Reg) (fun y30 => (some y30)))) z ∧ Ev (fun (K k : Nat) => cnd z (some true) (Option.bind (idx a.Locations s.Reg) (fun y36 => (some (!y36.InSlot))))) (!(regOk c a e s)) := by
   cases hc : ((decide (s.Reg < 0)) || (decide (s.Reg ≥ c.Regs))) with
   | true =>
    refine ⟨true, Ev.t rfl (Ev.some _), Ev.t rfl ((Ev.some _).cast ?_)⟩
    have : (decide (0 ≤ s.Reg) && decide (s.Reg < c.Regs)) = false := by
     rw [Bool.eq_false_iff]; intro q; simp at q hc; omega
    unfold regOk; rw [this]; rfl
   | false =>
    have hc2 : 0 ≤ s.Reg ∧ s.Reg < c.Regs := by simp at hc; omega
    have : (decide (0 ≤ s.Reg) && decide (s.Reg < c.Regs)) = true := by simpa using hc2
    have e1 := isSp_idx (sp := sp) hc2.1 (by rw [hs.l]; omega)
    rw [hs.b _ hc2.1 hc2.2] at e1
    refine ⟨e.contains s.Reg, Ev.f rfl (Ev.bindO e1 (Ev.some _)), ?_⟩
    unfold regOk
    rw [this, Bool.true_and]
    cases he : e.contains s.Reg with
    | true => exact Ev.t rfl (Ev.some _)
    | false => exact Ev.f rfl (Ev.bindO (locA_idx (a := a) hc2.1 (by omega)) (Ev.some _))
  cases hro : regOk c a e s with
  | false =>
   rw [hro] at hz2
   have : allS c a e (s :: a.Spills.drop (i + 1)) = false := by rw [allS, okS_and, hro]; rfl
   rw [this]
   exact ⟨m, sp, fun q => (by cases q), Ev.step (fun K k => rfl) (Ev.t (by simpa using hlt) (Ev.bindO hg (Ev.bind hz1 (Ev.bind hz2 (Ev.t rfl (Ev.out (Ev.some false)))))))⟩
  | true =>
   rw [hro] at hz2
   have hreg : 0 ≤ s.Reg ∧ s.Reg < c.Regs := by
    unfold regOk at hro
    simp only [Bool.and_eq_true, decide_eq_true_eq] at hro
    exact hro.1.1
   obtain ⟨m1, hm1, e3⟩ : ∃ m1, MP c m1 ∧ Ev (fun (K k : Nat) => cnd (s.Reason == 1) (Option.bind (alloccheck_acrossCall K (⟨c, m⟩ : AlloccheckPoints) s) (fun r45 => (some (r45.1, r45.2, sp)))) (cnd (s.Reason == 2) (Option.bind (alloccheck_pressure K (⟨c, m⟩ : AlloccheckPoints) s sp) (fun r48 => (some (r48.1, r48.2.1, r48.2.2)))) (cnd (s.Reason == 3) (Option.bind (idx (IFs c) s.Reg) (fun y51 => (Option.bind (alloccheck_coloring K c a s y51) (fun r53 => (some (r53, m, sp)))))) (some (false, m, sp))))) (rsnB c a e s, m1, sp) := by
    unfold rsnB
    cases h1 : (s.Reason == 1) with
    | true =>
     obtain ⟨m1, hm1, e1⟩ := ev_acall h hm s
     exact ⟨m1, hm1, Ev.t rfl (Ev.bind e1 (Ev.some _))⟩
    | false =>
     cases h2 : (s.Reason == 2) with
     | true =>
      obtain ⟨m1, hm1, e1⟩ := ev_apres h hm hs hso
      exact ⟨m1, hm1, Ev.f rfl (Ev.t rfl (Ev.bind e1 (Ev.some _)))⟩
     | false =>
      cases h3 : (s.Reason == 3) with
      | true =>
       have ei := idx_eq (IFs_get (c := c) (k := s.Reg.toNat) (by omega))
       rw [show ((s.Reg.toNat : Nat) : Int) = s.Reg by omega] at ei
       exact ⟨m, hm, Ev.f rfl (Ev.f rfl (Ev.t rfl (Ev.bindO ei (Ev.bind (ev_acol h hl hreg) (Ev.some _)))))⟩
      | false => exact ⟨m, hm, Ev.f rfl (Ev.f rfl (Ev.f rfl (Ev.some _)))⟩
   cases hrs : rsnB c a e s with
   | false =>
    rw [hrs] at e3
    have : allS c a e (s :: a.Spills.drop (i + 1)) = false := by rw [allS, okS_and, hrs, Bool.and_false]; rfl
    rw [this]
    exact ⟨m, sp, fun q => (by cases q), Ev.step (fun K k => rfl) (Ev.t (by simpa using hlt) (Ev.bindO hg (Ev.bind hz1 (Ev.bind hz2 (Ev.f rfl (Ev.bind e3 (Ev.t rfl (Ev.out (Ev.some false)))))))))⟩
   | true =>
    rw [hrs] at e3
    have e4 := isSp_idx (sp := sp) hreg.1 (by rw [hs.l]; omega)
    obtain ⟨m2, sp2, h1, e5⟩ := ih (i + 1) m1 (sp.set s.Reg.toNat true) (e ++ [s.Reg]) (by omega) hm1 (hs.next hreg.1 hreg.2)
    have : allS c a e (s :: a.Spills.drop (i + 1)) = allS c a (e ++ [s.Reg]) (a.Spills.drop (i + 1)) := by rw [allS, okS_and, hro, hrs]; rfl
    rw [this]
    refine ⟨m2, sp2, fun q => by simpa using h1 q, Ev.step (fun K k => rfl) (Ev.t (by simpa using hlt) (Ev.bindO hg (Ev.bind hz1 (Ev.bind hz2 (Ev.f rfl (Ev.bind e3 (Ev.f rfl (Ev.bindO e4 ?_))))))))⟩
    rw [w64_succ (i := i) (by omega)]; exact e5
theorem ev_pjust {c : VFunc} (h : Vd c) {a : Allocation} (hsm : SmA a) : Ev (fun K _ => alloccheck_Justified K c a) (JB c a) := by
 have hr1 := h.h.r1
 unfold alloccheck_Justified JB
 by_cases hl : (a.Locations.length : Int) = c.Regs
 ·obtain ⟨m', sp', h1, e1⟩ := aju_l1 h hl hsm a.Spills.length 0 [] (List.replicate c.Regs.toNat false) [] (by omega) (fun k y hy => by simp [mget] at hy) ⟨by simp, fun y h0 h1 => by
   unfold isSp
   rw [List.getD_eq_getElem?_getD, List.getElem?_replicate]
   split <;> rfl⟩
  rw [List.drop_zero] at h1 e1
  have hd : decide ((a.Locations.length : Int) = c.Regs) = true := by simpa using hl
  rw [hd, Bool.true_and]
  refine Ev.bind (ev_vvalid h.sm) (Ev.f (by rw [h.v]; simp [hl]) (Ev.bindO (mkR h (by omega) _) (Ev.bind (ev_pint h) ?_)))
  cases hall : allS c a [] a.Spills with
  | false => rw [hall] at e1; exact Ev.sqr (Ev.loop e1)
  | true =>
   rw [hall] at e1
   have hs := h1 hall
   rw [List.nil_append] at hs
   have e2 : Ev (fun K k => alloccheck_Justified_l2 K a (m', sp') k 0) (if slotsB c a then .inl () else .inr false) := by
    refine ev_all (List.range c.Regs.toNat) (fun K k i => alloccheck_Justified_l2 K a (m', sp') k i) (fun r : Nat => !(locA a (r : Int)).InSlot || (a.Spills.map Spill.Reg).contains (r : Int)) false (Ev.step (fun K k => rfl) (Ev.f (by simp; omega) (Ev.inn ()))) (fun j r hx hj => ?_)
    obtain ⟨rfl, hj⟩ := rng_get hx
    have e3 := locA_idx (a := a) (r := (r : Int)) (by omega) (by omega)
    have e4 := isSp_idx (sp := sp') (r := (r : Int)) (by omega) (by rw [hs.l]; omega)
    rw [hs.b _ (by omega) (by omega)] at e4
    have b1 : Ev (fun (K k : Nat) => cnd (locA a (r : Int)).InSlot (Option.bind (idx sp' (r : Int)) (fun y74 => (some (!y74)))) (some false)) (!(!(locA a (r : Int)).InSlot || (a.Spills.map Spill.Reg).contains (r : Int))) := by
     cases (locA a (r : Int)).InSlot with
     | true => exact Ev.t rfl (Ev.bindO e4 (Ev.some _))
     | false => exact Ev.f rfl (Ev.some _)
    refine ⟨fun ht r' hr' => ?_, fun ht => ?_⟩
    ·rw [ht] at b1
     refine Ev.step (fun K k => rfl) (Ev.t (by simp; omega) (Ev.bindO e3 (Ev.bind b1 (Ev.f rfl ?_))))
     rw [w64_succ (i := r) (by omega)]; exact hr'
    ·rw [ht] at b1
     exact Ev.step (fun K k => rfl) (Ev.t (by simp; omega) (Ev.bindO e3 (Ev.bind b1 (Ev.t rfl (Ev.out (Ev.some false))))))
   refine Ev.sql (Ev.loop e1) ?_
   rw [Bool.true_and]
   cases hsl : slotsB c a with
   | true => rw [hsl] at e2; exact Ev.sql (Ev.loop e2) (Ev.some _)
   | false => rw [hsl] at e2; exact Ev.sqr (Ev.loop e2)
 ·have hd : decide ((a.Locations.length : Int) = c.Regs) = false := by simpa using hl
  rw [hd]
  exact Ev.bind (ev_vvalid h.sm) (Ev.t (by rw [h.v]; simpa using hl) (Ev.some _))
end Go.Proofs.YtocfnpnnbmicmaaDoor.Tc
end
section
set_option linter.unusedVariables false
set_option linter.unusedSimpArgs false
namespace Go.Proofs.YtocfnpnnbmicmaaDoor.Tc
open Go
theorem getD_idx {l : List Int} {i : Nat} (h : i < l.length) : idx l (i : Int) = some (l.getD i 0) := by rw [idx_get h, List.getD_eq_getElem?_getD, List.getElem?_eq_getElem h]; rfl
theorem ev_ascending {l : List Int} (hl : Sm l) : Ev (fun K _ => ref32_ascending K l) (ascB l) := by
 have hl' : l.length ≤ 17592186044000 := hl
 have key : ∀ n i : Nat, i + n = l.length - 1 → Ev (fun K k => ref32_ascending_l1 K l k ((i + 1 : Nat) : Int)) (if (List.range' i n).all (fun i => decide (l.getD i 0 < l.getD (i + 1) 0)) then .inl () else .inr false) := by
  intro n
  induction n with
  | zero =>
   intro i hi
   exact Ev.step (fun K k => rfl) (Ev.f (by simp; omega) (Ev.inn ()))
  | succ n ih =>
   intro i hi
   have hw : w64 (((i + 1 : Nat) : Int) - 1) = (i : Int) := by rw [w64_id (by omega) (by omega)]; omega
   have e1 := getD_idx (l := l) (i := i) (by omega)
   rw [← hw] at e1
   rw [List.range'_succ, List.all_cons]
   refine Ev.step (fun K k => rfl) (Ev.t (by simp; omega) (Ev.bindO e1 (Ev.bindO (getD_idx (i := i + 1) (by omega)) ?_)))
   cases hc : decide (l.getD i 0 < l.getD (i + 1) 0) with
   | true =>
    have hc := of_decide_eq_true hc
    refine Ev.f (by rw [decide_eq_false_iff_not]; omega) ?_
    rw [Bool.true_and, w64_succ (i := i + 1) (by omega)]
    exact ih (i + 1) (by omega)
   | false =>
    have hc := of_decide_eq_false hc
    exact Ev.t (by rw [decide_eq_true_iff]; omega) (Ev.out (Ev.some false))
 have h1 := key (l.length - 1) 0 (by omega)
 rw [← List.range_eq_range'] at h1
 unfold ref32_ascending
 show Ev _ ((List.range (l.length - 1)).all (fun i => decide (l.getD i 0 < l.getD (i + 1) 0)))
 cases hc : (List.range (l.length - 1)).all (fun i => decide (l.getD i 0 < l.getD (i + 1) 0)) with
 | true => rw [hc] at h1; exact Ev.sql (Ev.loop h1) (Ev.some _)
 | false => rw [hc] at h1; exact Ev.sqr (Ev.loop h1)
theorem LPs_len (c : VFunc) (k : Nat) : (LPs c k).length = (bk c k).Instrs.length + 1 := by simp [LPs, lps]
theorem ev_rpl {c : VFunc} (h : Vd c) (b : Int) : (∃ k : Nat, b = (k : Int) ∧ k < c.Blocks.length ∧ Ev (fun K _ => ref32_LivePoints K c b) (LPs c k)) ∨ ((decide (0 ≤ b) && decide (b < (c.Blocks.length : Int))) = false ∧ Ev (fun K _ => ref32_LivePoints K c b) []) := by
 by_cases hb : 0 ≤ b ∧ b < (c.Blocks.length : Int)
 ·obtain ⟨k, rfl⟩ : ∃ k : Nat, b = (k : Int) := ⟨b.toNat, by omega⟩
  exact .inl ⟨k, rfl, by omega, ev_rpoints h (by omega)⟩
 ·exact .inr ⟨by rw [Bool.eq_false_iff]; intro q; simp at q; omega, ev_rpoints0 h.sm (fun q => hb q.2)⟩
theorem ev_rcall {c : VFunc} (h : Vd c) {s : Spill} : Ev (fun (K k : Nat) => Option.bind (ref32_LivePoints K c s.Block) (fun r11 => (cnd ((decide (s.Index < 0)) || (decide (s.Index ≥ ((r11).length : Int)))) (some false) (Option.bind (cnd (decide (s.Index < (w64 (((r11).length : Int) - 1)))) (cnd (((s.Others).length : Int) == 0) (Option.bind (idx c.Blocks s.Block) (fun y23 => (Option.bind (idx y23.Instrs s.Index) (fun y25 => (Option.bind (ref32_after r11 s.Index) (fun r27 => (Option.bind (ref32_acrossCall K y25 r27) (fun r29 => (Option.bind (ref32_Contains K r29 s.Reg) (fun r31 => (some r31))))))))))) (some false)) (some false)) (fun s16 => (some s16)))))) (callB c s) := by
  rcases ev_rpl h s.Block with ⟨k, ek, hk, e1⟩ | ⟨hb, e1⟩
  · have hlen := h.len hk
    refine Ev.bind e1 ?_
    rw [LPs_len]
    have hw : w64 ((((bk c k).Instrs.length + 1 : Nat) : Int) - 1) = ((bk c k).Instrs.length : Int) := by rw [w64_id (by omega) (by omega)]; omega
    rw [hw]
    by_cases hi : 0 ≤ s.Index ∧ s.Index < ((bk c k).Instrs.length : Int) + 1
    · obtain ⟨i, ei⟩ : ∃ i : Nat, s.Index = (i : Int) := ⟨s.Index.toNat, by omega⟩
      refine Ev.f (by simp; omega) ?_
      by_cases hil : i < (bk c k).Instrs.length
      · have hp : ptB c s.Block s.Index 0 = true := by unfold ptB; rw [ek, ei]; simp; omega
        have e1 : ((i : Int) + 1) = ((i + 1 : Nat) : Int) := by omega
        have e2 : idx c.Blocks s.Block = some (bk c k) := by rw [ek]; exact bk_idx hk
        have e3 : idx (bk c k).Instrs s.Index = some (iAt (bk c k) i) := by rw [ei]; exact idx_eq (iAt_get hil)
        have e4 : ref32_after (LPs c k) s.Index = some (lp (bk c k) (LO c k) (i + 1)) := by rw [ei]; exact after_eq hk hil hlen
        have hv := h.ia hk hil
        obtain ⟨hl, hsm⟩ := lp_sm h hk (i + 1)
        unfold callB
        rw [hp, ek, ei, e1, lpA_eq, Bool.true_and]
        refine Ev.bind (Ev.t (by rw [ei] at *; simp; omega) ?_) (Ev.some _)
        cases ho : (((s.Others).length : Int) == 0) with
        | true =>
          have : decide (s.Others.length = 0) = true := by have : ((s.Others).length : Int) = 0 := by simpa using ho
                                                           simp only [decide_eq_true_eq]; omega
          rw [this, Bool.true_and]
          refine Ev.t rfl ?_
          rw [← ek, ← ei]
          exact Ev.bindO e2 (Ev.bindO e3 (Ev.bindO e4 (Ev.bind (ev_acrossCall h hv hl) (Ev.bind (ev_contains' h (RS.acv hv hl)) ((Ev.some _).cast (by rw [ek, Int.toNat_natCast, ei, Int.toNat_natCast]))))))
        | false =>
          have : decide (s.Others.length = 0) = false := by have : ¬ ((s.Others).length : Int) = 0 := by simpa using ho
                                                            simp only [decide_eq_false_iff_not]; omega
          rw [this, Bool.false_and]
          exact Ev.f rfl (Ev.some _)
      · have hp : ptB c s.Block s.Index 0 = false := by unfold ptB; rw [ek, ei]; simp; omega
        unfold callB
        rw [hp, Bool.false_and]
        exact Ev.bind (Ev.f (by rw [ei]; simp; omega) (Ev.some _)) (Ev.some _)
    · have hp : ptB c s.Block s.Index 0 = false := by unfold ptB; rw [ek]; simp; omega
      unfold callB
      rw [hp, Bool.false_and]
      exact Ev.t (by simp; omega) (Ev.some _)
  · have hp : ptB c s.Block s.Index 0 = false := by unfold ptB; rw [hb]; rfl
    unfold callB
    rw [hp, Bool.false_and]
    exact Ev.bind e1 (Ev.t (by simp; omega) (Ev.some _))
theorem ev_rpres {c : VFunc} (h : Vd c) {s : Spill} {e : List Int} (he : Sm e) (hne : e.contains s.Reg = false) (ho : s.Others.length ≤ 17592186044000) : Ev (fun (K k : Nat) => Option.bind (ref32_LivePoints K c s.Block) (fun r11 => (cnd ((decide (s.Index < 0)) || (decide (s.Index ≥ ((r11).length : Int)))) (some false) (Option.bind (app 8 [] s.Others) (fun l33 => (Option.bind (app 8 l33 ([s.Reg] : List Int)) (fun l36 => (sq (ref32_justified_l1 K e s r11 l36 K 0) (fun s39 => (Option.bind (ref32_ascending K s.Others) (fun r64 => (Option.bind (cnd r64 (Option.bind (ref32_Contains K s.Others s.Reg) (fun r70 => (some (!r70)))) (some false)) (fun z67 => (some (z67 && (decide (((s.Others).length : Int) ≥ 5))))))))))))))))) (presB c e s) := by
 rcases ev_rpl h s.Block with ⟨k, ek, hk, e1⟩ | ⟨hb, e1⟩
 ·have hlen := h.len hk
  refine Ev.bind e1 ?_
  rw [LPs_len]
  by_cases hi : 0 ≤ s.Index ∧ s.Index < ((bk c k).Instrs.length : Int) + 1
  ·obtain ⟨i, ei⟩ : ∃ i : Nat, s.Index = (i : Int) := ⟨s.Index.toNat, by omega⟩
   have hil : i ≤ (bk c k).Instrs.length := by omega
   have hp : ptB c s.Block s.Index 1 = true := by unfold ptB; rw [ek, ei]; simp; omega
   obtain ⟨hl, hsm⟩ := lp_sm h hk i
   have ex : idx (LPs c k) s.Index = some (lp (bk c k) (LO c k) i) := by rw [ei]; exact LPs_idx hil
   have e2 : Ev (fun K n => ref32_justified_l1 K e s (LPs c k) (s.Others ++ [s.Reg]) n 0) (if (s.Others ++ [s.Reg]).all (fun y => (lp (bk c k) (LO c k) i).contains y && !(e.contains y)) then .inl () else .inr false) :=
    ev_all (s.Others ++ [s.Reg]) (fun K n j => ref32_justified_l1 K e s (LPs c k) (s.Others ++ [s.Reg]) n j) _ false (Ev.step (fun K k => rfl) (Ev.f (by simp) (Ev.inn ())))
     (fun j y hy hj => by
      have hj2 : j ≤ 17592186044000 := by rw [List.length_append, List.length_singleton] at hj; omega
      have b1 : Ev (fun (K n : Nat) => Option.bind (idx (LPs c k) s.Index) (fun y52 => (Option.bind (idx (s.Others ++ [s.Reg]) (j : Int)) (fun y54 => (Option.bind (ref32_Contains K y52 y54) (fun r56 => (cnd (!r56) (some true) (Option.bind (idx (s.Others ++ [s.Reg]) (j : Int)) (fun y59 => (Option.bind (ref32_Contains K e y59) (fun r61 => (some r61)))))))))))) (!((lp (bk c k) (LO c k) i).contains y && !(e.contains y))) := by
       refine Ev.bindO ex (Ev.bindO (idx_eq hy) (Ev.bind (ev_contains hsm) ?_))
       cases (lp (bk c k) (LO c k) i).contains y with
       | false => exact Ev.t rfl (Ev.some _)
       | true => exact Ev.f rfl (Ev.bindO (idx_eq hy) (Ev.bind (ev_contains he) ((Ev.some _).cast (by simp))))
      refine ⟨fun ht r hr => ?_, fun ht => ?_⟩
      ·rw [ht] at b1
       refine Ev.step (fun K k => rfl) (Ev.t (by simp at hj ⊢; omega) (Ev.bind b1 (Ev.f rfl ?_)))
       rw [w64_succ (i := j) hj2]; exact hr
      ·rw [ht] at b1
       exact Ev.step (fun K k => rfl) (Ev.t (by simp at hj ⊢; omega) (Ev.bind b1 (Ev.t rfl (Ev.out (Ev.some false))))))
   refine Ev.f (by simp; omega) (Ev.bindO (app_nil (by omega) (by omega)) (Ev.bindO (app_eq (by simp; omega) (by simp; omega)) ?_))
   have eb : presB c e s = (decide (5 ≤ s.Others.length) && ((lp (bk c k) (LO c k) i).contains s.Reg && (s.Others.all (fun y => (lp (bk c k) (LO c k) i).contains y && !(e.contains y)) && (ascB s.Others && !(s.Others.contains s.Reg))))) := by
    unfold presB
    rw [hp, ek, ei, lpA_eq]; rfl
   have eall : (s.Others ++ [s.Reg]).all (fun y => (lp (bk c k) (LO c k) i).contains y && !(e.contains y)) = (s.Others.all (fun y => (lp (bk c k) (LO c k) i).contains y && !(e.contains y)) && (lp (bk c k) (LO c k) i).contains s.Reg) := by
    rw [List.all_append, List.all_cons, List.all_nil, hne]; simp
   rw [eall] at e2
   rw [eb]
   generalize (s.Others.all (fun y => (lp (bk c k) (LO c k) i).contains y && !(e.contains y))) = A at e2 ⊢
   generalize ((lp (bk c k) (LO c k) i).contains s.Reg) = B at e2 ⊢
   cases hAB : (A && B) with
   | false =>
    rw [hAB] at e2
    refine (Ev.sqr (Ev.loop e2)).cast ?_
    symm
    cases A <;> cases B <;> simp_all
   | true =>
    rw [hAB] at e2
    rw [Bool.and_eq_true] at hAB
    obtain ⟨rfl, rfl⟩ := hAB
    refine Ev.sql (Ev.loop e2) (Ev.bind (ev_ascending (by unfold Sm; omega)) (Ev.bind (x := ascB s.Others && !(s.Others.contains s.Reg)) ?_ ((Ev.some _).cast ?_)))
    ·cases ascB s.Others with
     | true => exact Ev.t rfl (Ev.bind (ev_contains (by unfold Sm; omega)) (Ev.some _))
     | false => exact Ev.f rfl (Ev.some _)
    ·have : decide (((s.Others).length : Int) ≥ 5) = decide (5 ≤ s.Others.length) := by rw [Bool.eq_iff_iff]; simp; omega
     rw [this, Bool.and_comm, Bool.true_and, Bool.true_and]
  ·have hp : ptB c s.Block s.Index 1 = false := by unfold ptB; rw [ek]; simp; omega
   unfold presB
   rw [hp, Bool.false_and]
   exact Ev.t (by simp; omega) (Ev.some _)
 ·have hp : ptB c s.Block s.Index 1 = false := by unfold ptB; rw [hb]; rfl
  unfold presB
  rw [hp, Bool.false_and]
  exact Ev.bind e1 (Ev.t (by simp; omega) (Ev.some _))
theorem ev_rcol {c : VFunc} (h : Vd c) {a : Allocation} (hl : (a.Locations.length : Int) = c.Regs) {s : Spill} (hr : 0 ≤ s.Reg ∧ s.Reg < c.Regs) : Ev (fun (K k : Nat) => cnd (((((s.Others).length : Int) != 5) || (s.Block != 0)) || (s.Index != 0)) (some false) (sq (ref32_justified_l2 K a (IFs c) s K 0) (fun s79 => (some true)))) (colrB c a s) := by
 have g := gr_IF h
 have hlen := (g.s s.Reg.toNat).len h
 have ei : idx (IFs c) s.Reg = some (IF c s.Reg.toNat) := by
  have := idx_eq (IFs_get (c := c) (k := s.Reg.toNat) (by omega))
  rwa [show ((s.Reg.toNat : Nat) : Int) = s.Reg by omega] at this
 unfold colrB
 by_cases hh : (s.Block = 0 ∧ s.Index = 0) ∧ s.Others.length = 5
 ·obtain ⟨⟨h1, h2⟩, h3⟩ := hh
  have e1 : Ev (fun K n => ref32_justified_l2 K a (IFs c) s n 0) (if (List.range s.Others.length).all (fun k => (IF c s.Reg.toNat).contains (s.Others.getD k 0) && sameL (locA a (s.Others.getD k 0)) ⟨false, (k : Int)⟩) then .inl () else .inr false) :=
   ev_all (List.range s.Others.length) (fun K n j => ref32_justified_l2 K a (IFs c) s n j) _ false (Ev.step (fun K k => rfl) (Ev.f (by simp) (Ev.inn ())))
    (fun j x hx hj => by
     obtain ⟨rfl, hj⟩ := rng_get hx
     have eg := getD_idx hj
     have b1 : Ev (fun (K n : Nat) => Option.bind (idx (IFs c) s.Reg) (fun y92 => (Option.bind (idx s.Others (x : Int)) (fun y94 => (Option.bind (ref32_Contains K y92 y94) (fun r96 => (cnd (!r96) (some true) (Option.bind (idx s.Others (x : Int)) (fun y99 => (Option.bind (idx a.Locations y99) (fun y101 => (some (!((y101.InSlot == false) && (y101.Index == (x : Int)))))))))))))))) (!((IF c s.Reg.toNat).contains (s.Others.getD x 0) && sameL (locA a (s.Others.getD x 0)) ⟨false, (x : Int)⟩)) := by
      refine Ev.bindO ei (Ev.bindO eg (Ev.bind (ev_contains' h (g.s _)) ?_))
      cases hc : (IF c s.Reg.toNat).contains (s.Others.getD x 0) with
      | false => exact Ev.t rfl (Ev.some _)
      | true =>
       have hm := (g.s s.Reg.toNat).r _ (List.contains_iff_mem.1 hc)
       exact Ev.f rfl (Ev.bindO eg (Ev.bindO (locA_idx (a := a) hm.1 (by omega)) (Ev.some _)))
     refine ⟨fun ht r hr => ?_, fun ht => ?_⟩
     ·rw [ht] at b1
      refine Ev.step (fun K k => rfl) (Ev.t (by simpa using hj) (Ev.bind b1 (Ev.f rfl ?_)))
      rw [w64_succ (i := x) (by omega)]; exact hr
     ·rw [ht] at b1
      exact Ev.step (fun K k => rfl) (Ev.t (by simpa using hj) (Ev.bind b1 (Ev.t rfl (Ev.out (Ev.some false))))))
  have eh : ((s.Block == 0) && (s.Index == 0)) = true := by rw [h1, h2]; rfl
  rw [eh, Bool.true_and]
  have e5 : decide (s.Others.length = 5) = true := by simpa using h3
  rw [e5, Bool.true_and]
  refine Ev.f (by rw [h1, h2, h3]; rfl) ?_
  cases hT : (List.range s.Others.length).all (fun k => (IF c s.Reg.toNat).contains (s.Others.getD k 0) && sameL (locA a (s.Others.getD k 0)) ⟨false, (k : Int)⟩) with
  | true => rw [hT] at e1; exact Ev.sql (Ev.loop e1) (Ev.some _)
  | false => rw [hT] at e1; exact Ev.sqr (Ev.loop e1)
 ·have ef : (((s.Block == 0) && (s.Index == 0)) && decide (s.Others.length = 5)) = false := by
   rw [Bool.eq_false_iff]; intro q; apply hh; simpa using q
  refine Ev.t ?_ ((Ev.some _).cast ?_)
  ·rw [Bool.eq_false_iff] at ef
   rw [← Bool.not_eq_false]
   intro q
   apply ef
   simp only [Bool.or_eq_false_iff, bne_eq_false_iff_eq] at q
   simp [q.1.2, q.2]; omega
  ·rw [← Bool.and_assoc, ef]; rfl
theorem ev_rjustified {c : VFunc} (h : Vd c) {a : Allocation} (hl : (a.Locations.length : Int) = c.Regs) {s : Spill} {e : List Int} (he : Sm e) (hr : regOk c a e s = true) (ho : s.Others.length ≤ 17592186044000) : Ev (fun K _ => ref32_justified K c a (IFs c) e s) (rsnB c a e s) := by
 unfold regOk at hr
 simp only [Bool.and_eq_true, decide_eq_true_eq, Bool.not_eq_true'] at hr
 obtain ⟨⟨hreg, hne⟩, _⟩ := hr
 unfold ref32_justified rsnB
 cases h1 : (s.Reason == 1) with
 | true => exact Ev.bind (x := true) (Ev.t rfl (Ev.some _)) (Ev.t rfl (ev_rcall h))
 | false =>
  cases h2 : (s.Reason == 2) with
  | true => exact Ev.bind (x := true) (Ev.f rfl (Ev.some _)) (Ev.t rfl (ev_rpres h he hne ho))
  | false =>
   refine Ev.bind (x := false) (Ev.f rfl (Ev.some _)) (Ev.f rfl ?_)
   cases h3 : (s.Reason == 3) with
   | true => exact Ev.t rfl (ev_rcol h hl hreg)
   | false => exact Ev.f rfl (Ev.some _)
theorem rju_l2 {c : VFunc} (h : Vd c) {a : Allocation} (hl : (a.Locations.length : Int) = c.Regs) (hsm : SmA a) : ∀ (n i : Nat) (e : List Int), i + n = a.Spills.length → e.Nodup → (∀ x, x ∈ e → 0 ≤ x ∧ x < c.Regs) → Ev (fun K k => ref32_Justified_l2 K c a (IFs c) k ((i : Int), e)) (if allS c a e (a.Spills.drop i) then .inl () else .inr false) := by
 have hr1 := h.h.r1
 intro n
 induction n with
 | zero =>
  intro i e hi hd hr
  rw [List.drop_eq_nil_of_le (by omega)]
  exact Ev.step (fun K k => rfl) (Ev.f (by simp; omega) (Ev.inn _))
 | succ n ih =>
  intro i e hi hd hr
  have hss := hsm.s
  have hlt : i < a.Spills.length := by omega
  have hg := idx_get hlt
  have hmem := List.getElem_mem hlt
  rw [drop_get hlt]
  generalize a.Spills[i] = s at hg hmem
  have hso := hsm.o s hmem
  have hel : e.length ≤ 3000 := by
   have := nodup_len (n := c.Regs.toNat) hd fun x hx => by have := hr x hx; omega
   omega
  have he : Sm e := by unfold Sm; omega
  obtain ⟨z, hz1, hz2⟩ : ∃ z, Ev (fun (K k : Nat) => cnd ((decide (s.Reg < 0)) || (decide (s.Reg ≥ c.Regs))) (some true) (Option.bind (ref32_Contains K e s.Reg) (fun r42 => (some r42)))) z ∧ Ev (fun (K k : Nat) => cnd z (some true) (Option.bind (idx a.Locations s.Reg) (fun y48 => (some (!y48.InSlot))))) (!(regOk c a e s)) := by
   cases hc : ((decide (s.Reg < 0)) || (decide (s.Reg ≥ c.Regs))) with
   | true =>
    refine ⟨true, Ev.t rfl (Ev.some _), Ev.t rfl ((Ev.some _).cast ?_)⟩
    have : (decide (0 ≤ s.Reg) && decide (s.Reg < c.Regs)) = false := by
     rw [Bool.eq_false_iff]; intro q; simp at q hc; omega
    unfold regOk; rw [this]; rfl
   | false =>
    have hc2 : 0 ≤ s.Reg ∧ s.Reg < c.Regs := by simp at hc; omega
    have : (decide (0 ≤ s.Reg) && decide (s.Reg < c.Regs)) = true := by simpa using hc2
    refine ⟨e.contains s.Reg, Ev.f rfl (Ev.bind (ev_contains he) (Ev.some _)), ?_⟩
    unfold regOk
    rw [this, Bool.true_and]
    cases he : e.contains s.Reg with
    | true => exact Ev.t rfl (Ev.some _)
    | false => exact Ev.f rfl (Ev.bindO (locA_idx (a := a) hc2.1 (by omega)) (Ev.some _))
  cases hro : regOk c a e s with
  | false =>
   rw [hro] at hz2
   have : allS c a e (s :: a.Spills.drop (i + 1)) = false := by rw [allS, okS_and, hro]; rfl
   rw [this]
   exact Ev.step (fun K k => rfl) (Ev.t (by simpa using hlt) (Ev.bindO hg (Ev.bind hz1 (Ev.bind hz2 (Ev.bind (x := true) (Ev.t rfl (Ev.some _)) (Ev.t rfl (Ev.out (Ev.some false))))))))
  | true =>
   rw [hro] at hz2
   have e3 := ev_rjustified h hl he hro hso
   have hre : (0 ≤ s.Reg ∧ s.Reg < c.Regs) ∧ s.Reg ∉ e := by
    unfold regOk at hro
    simp only [Bool.and_eq_true, decide_eq_true_eq, Bool.not_eq_true'] at hro
    exact ⟨hro.1.1, fun q => by have := List.contains_iff_mem.2 q; rw [hro.1.2] at this; cases this⟩
   cases hrs : rsnB c a e s with
   | false =>
    rw [hrs] at e3
    have : allS c a e (s :: a.Spills.drop (i + 1)) = false := by rw [allS, okS_and, hrs, Bool.and_false]; rfl
    rw [this]
    exact Ev.step (fun K k => rfl) (Ev.t (by simpa using hlt) (Ev.bindO hg (Ev.bind hz1 (Ev.bind hz2 (Ev.bind (x := true) (Ev.f rfl (Ev.bind e3 (Ev.some _))) (Ev.t rfl (Ev.out (Ev.some false))))))))
   | true =>
    rw [hrs] at e3
    have e5 := ih (i + 1) (e ++ [s.Reg]) (by omega) (by
     rw [List.nodup_append]
     refine ⟨hd, by simp, fun x hx y hy exy => ?_⟩
     rw [List.mem_singleton.1 hy] at exy
     exact hre.2 (exy ▸ hx)) (fun x hx => by
     rcases List.mem_append.1 hx with q | q
     ·exact hr x q
     ·rw [List.mem_singleton.1 q]; exact hre.1)
    have : allS c a e (s :: a.Spills.drop (i + 1)) = allS c a (e ++ [s.Reg]) (a.Spills.drop (i + 1)) := by rw [allS, okS_and, hro, hrs]; rfl
    rw [this]
    refine Ev.step (fun K k => rfl) (Ev.t (by simpa using hlt) (Ev.bindO hg (Ev.bind hz1 (Ev.bind hz2 (Ev.bind (x := false) (Ev.f rfl (Ev.bind e3 (Ev.some _))) (Ev.f rfl (Ev.bindO (app_eq (by simp; omega) (by simp; omega)) ?_)))))))
    rw [w64_succ (i := i) (by omega)]; exact e5
theorem rju_l1 {c : VFunc} (h : Vd c) {a : Allocation} (hl : (a.Locations.length : Int) = c.Regs) : Ev (fun K k => ref32_Justified_l1 K c a k (0, 0)) ((((List.range c.Regs.toNat).filter (fun r : Nat => (locA a (r : Int)).InSlot)).length : Nat) : Int) := by
 have hr0 := h.h.r0
 have hr1 := h.h.r1
 have key : ∀ n r : Nat, r + n = c.Regs.toNat → Ev (fun K k => ref32_Justified_l1 K c a k (((((List.range r).filter (fun r : Nat => (locA a (r : Int)).InSlot)).length : Nat) : Int), (r : Int))) ((((List.range c.Regs.toNat).filter (fun r : Nat => (locA a (r : Int)).InSlot)).length : Nat) : Int) := by
  intro n
  induction n with
  | zero =>
   intro r hr
   have : r = c.Regs.toNat := by omega
   subst this
   exact Ev.step (fun K k => rfl) (Ev.f (by simp; omega) (Ev.some _))
  | succ n ih =>
   intro r hr
   have e1 := locA_idx (a := a) (r := (r : Int)) (by omega) (by omega)
   have h1 := ih (r + 1) (by omega)
   rw [List.range_succ, List.filter_append, List.length_append] at h1
   have hle : ((List.range r).filter (fun r : Nat => (locA a (r : Int)).InSlot)).length ≤ r := by
    have := List.length_filter_le (fun r : Nat => (locA a (r : Int)).InSlot) (List.range r)
    simpa using this
   refine Ev.step (fun K k => rfl) (Ev.t (by simp; omega) (Ev.bind (x := (((((List.range r).filter (fun r : Nat => (locA a (r : Int)).InSlot)).length + ([r].filter (fun r : Nat => (locA a (r : Int)).InSlot)).length : Nat)) : Int)) (Ev.bindO e1 ?_) ?_))
   ·cases hs : (locA a (r : Int)).InSlot with
    | true => exact Ev.t rfl ((Ev.some _).cast (by rw [w64_succ (by omega), List.filter_cons, hs]; rfl))
    | false => exact Ev.f rfl ((Ev.some _).cast (by rw [List.filter_cons, hs]; rfl))
   ·rw [w64_succ (i := r) (by omega)]; exact h1
 exact key c.Regs.toNat 0 (by omega)
theorem ev_rjust {c : VFunc} (h : Vd c) {a : Allocation} (hsm : SmA a) : Ev (fun K _ => ref32_Justified K c a) (JB c a) := by
 unfold ref32_Justified JB
 by_cases hl : (a.Locations.length : Int) = c.Regs
 ·have hd : decide ((a.Locations.length : Int) = c.Regs) = true := by simpa using hl
  have e2 := rju_l2 h hl hsm a.Spills.length 0 [] (by omega) List.nodup_nil (fun x hx => by simp at hx)
  rw [List.drop_zero] at e2
  rw [hd, Bool.true_and]
  refine Ev.bind (ev_rvalid h.sm) (Ev.f (by rw [h.v]; simp [hl]) (Ev.bind (Ev.loop (rju_l1 h hl)) ?_))
  cases hall : allS c a [] a.Spills with
  | false =>
   rw [hall] at e2
   exact Ev.cnd (fun _ => Ev.some _) (fun _ => Ev.bind (ev_rint h) (Ev.sqr (Ev.loop e2)))
  | true =>
   rw [hall] at e2
   have hc := slots_count h.h.r0 hall
   rw [Bool.true_and, ← hc]
   refine Ev.cnd (fun q => (Ev.some _).cast ?_) (fun q => Ev.bind (ev_rint h) (Ev.sql (Ev.loop e2) ((Ev.some _).cast ?_)))
   ·symm; rw [decide_eq_false_iff_not]; rw [bne_iff_ne] at q; omega
   ·symm; rw [decide_eq_true_iff]; rw [bne_eq_false_iff_eq] at q; omega
 ·have hd : decide ((a.Locations.length : Int) = c.Regs) = false := by simpa using hl
  rw [hd]
  exact Ev.bind (ev_rvalid h.sm) (Ev.t (by rw [h.v]; simpa using hl) (Ev.some _))
end Go.Proofs.YtocfnpnnbmicmaaDoor.Tc
end
section
set_option linter.unusedVariables false
set_option linter.unusedSimpArgs false
namespace Go.Proofs.YtocfnpnnbmicmaaDoor.Tc
open Go
def OkE {α : Type} (f : Nat → Nat → Option α) (P : α → Prop) : Prop := ∃ x, Ev f x ∧ P x
section
variable {α β S R : Type}
theorem OkE.ev {f : Nat → Nat → Option α} {P : α → Prop} {x : α} (h : Ev f x) (hp : P x) : OkE f P := ⟨x, h, hp⟩
theorem OkE.some {P : α → Prop} (x : α) (hp : P x) : OkE (fun _ _ => some x) P := ⟨x, Ev.some x, hp⟩
theorem OkE.of {P : α → Prop} {o : Option α} {x : α} (h : o = Option.some x) (hp : P x) : OkE (fun _ _ => o) P := ⟨x, Ev.of h, hp⟩
theorem OkE.bind {f : Nat → Nat → Option α} {g : Nat → Nat → α → Option β} {P : α → Prop} {Q : β → Prop} (h : OkE f P) (k : ∀ x, P x → OkE (fun K k => g K k x) Q) : OkE (fun K k => (f K k).bind (g K k)) Q := by
 obtain ⟨x, h1, h2⟩ := h
 obtain ⟨y, h3, h4⟩ := k x h2
 exact ⟨y, Ev.bind h1 h3, h4⟩
theorem OkE.bindO {o : Option α} {g : Nat → Nat → α → Option β} {x : α} {Q : β → Prop} (h : o = Option.some x) (k : OkE (fun K k => g K k x) Q) : OkE (fun K k => o.bind (g K k)) Q := by
 obtain ⟨y, h3, h4⟩ := k
 exact ⟨y, Ev.bindO h h3, h4⟩
theorem OkE.cnd {b : Bool} {f g : Nat → Nat → Option α} {Q : α → Prop} (h1 : b = true → OkE f Q) (h2 : b = false → OkE g Q) : OkE (fun K k => Tc.cnd b (f K k) (g K k)) Q := by
 cases b with
 | true => exact h1 rfl
 | false => exact h2 rfl
theorem OkE.mono {f : Nat → Nat → Option α} {P Q : α → Prop} (h : OkE f P) (k : ∀ x, P x → Q x) : OkE f Q := by
 obtain ⟨x, h1, h2⟩ := h
 exact ⟨x, h1, k x h2⟩
theorem OkE.loop {F : Nat → Nat → S → Option R} {s : S} {P : R → Prop} (h : OkE (fun K k => F K k s) P) : OkE (fun K _ => F K K s) P := by
 obtain ⟨x, h1, h2⟩ := h
 exact ⟨x, Ev.loop h1, h2⟩
theorem OkE.step {F : Nat → Nat → S → Option R} {s : S} {B : Nat → Nat → Option R} {P : R → Prop} (he : ∀ K k, F K (k + 1) s = B K k) (h : OkE B P) : OkE (fun K k => F K k s) P := by
 obtain ⟨x, h1, h2⟩ := h
 exact ⟨x, Ev.step he h1, h2⟩
theorem OkE.sq {f : Nat → Nat → Option (S ⊕ R)} {g : Nat → Nat → S → Option R} {P : S → Prop} {Q : R → Prop} (h : OkE f (fun x => match x with | .inl s => P s | .inr r => Q r)) (k : ∀ s, P s → OkE (fun K k => g K k s) Q) : OkE (fun K k => Tc.sq (f K k) (g K k)) Q := by
 obtain ⟨x, h1, h2⟩ := h
 cases x with
 | inl s => obtain ⟨y, h3, h4⟩ := k s h2; exact ⟨y, Ev.sql h1 h3, h4⟩
 | inr r => exact ⟨r, Ev.sqr h1, h2⟩
theorem OkE.out {f : Nat → Nat → Option R} {P : S ⊕ R → Prop} {Q : R → Prop} (h : OkE f Q) (k : ∀ r, Q r → P (.inr r)) : OkE (fun K k => (Tc.out (f K k) : Option (S ⊕ R))) P := by
 obtain ⟨x, h1, h2⟩ := h
 exact ⟨.inr x, Ev.out h1, k x h2⟩
theorem OkE.inn {P : S ⊕ R → Prop} (s : S) (h : P (.inl s)) : OkE (fun _ _ => (Tc.inn s : Option (S ⊕ R))) P := ⟨.inl s, Ev.inn s, h⟩
end
theorem OkE.pick {β : Type} (a : Int) {m : Int} (h0 : 0 < m) (h1 : m ≤ 1000000000000) {g : Nat → Nat → Int → Option β} {Q : β → Prop} (k : ∀ r, 0 ≤ r → r < m → OkE (fun K k => g K k r) Q) : OkE (fun K k => (keep_Pick a m).bind (g K k)) Q := by
 obtain ⟨r, e, h2, h3⟩ := pick_ok a h0 h1
 exact OkE.bindO e (k r h2 h3)
theorem OkE.idx {α β : Type} {l : List α} {i : Int} (h0 : 0 ≤ i) (h1 : i < l.length) {g : Nat → Nat → α → Option β} {Q : β → Prop} (k : ∀ y, y ∈ l → OkE (fun K k => g K k y) Q) : OkE (fun K k => (Tc.idx l i).bind (g K k)) Q := by
 have hlt : i.toNat < l.length := by omega
 have := idx_get hlt
 rw [show ((i.toNat : Nat) : Int) = i by omega] at this
 exact OkE.bindO this (k _ (List.getElem_mem hlt))
end Go.Proofs.YtocfnpnnbmicmaaDoor.Tc
end
section
set_option linter.unusedVariables false
set_option linter.unusedSimpArgs false
namespace Go.Proofs.YtocfnpnnbmicmaaDoor.Tc
open Go
structure Bd (c : VFunc) : Prop where
 b : c.Blocks.length ≤ 17592186044000
 i : ∀ b, b ∈ c.Blocks → b.Instrs.length ≤ 2199023255552
theorem Bd.sm {c : VFunc} (h : Bd c) : SmF c := ⟨h.b, fun b hb => by have := h.i b hb; unfold Sm; omega⟩
theorem Bd.vd {c : VFunc} (h : Bd c) (hv : validB c = true) : Vd c := ⟨hv, h.i⟩
theorem VF.bd {p : Int} {c : VFunc} (h : VF p c) : Bd c := ⟨by have := h.len; omega, fun b hb => by
 obtain ⟨k, hk, rfl⟩ := mem_bk hb
 have := h.ilen hk; omega⟩
theorem both_sound {c : VFunc} (h : Bd c) (a : Allocation) : ∃ b, Ev (fun K _ => alloccheck_Sound K c a) b ∧ Ev (fun K _ => ref32_Sound K c a) b := by
 cases hv : validB c with
 | false =>
  refine ⟨false, ?_, ?_⟩
  ·unfold alloccheck_Sound
   exact Ev.bind (ev_vvalid h.sm) (Ev.t (by rw [hv]; rfl) (Ev.some _))
  ·unfold ref32_Sound
   exact Ev.bind (ev_rvalid h.sm) (Ev.t (by rw [hv]; rfl) (Ev.some _))
 | true => exact ⟨SB c a, ev_psound (h.vd hv) a, ev_rsound (h.vd hv) a⟩
theorem both_just {c : VFunc} (h : Bd c) {a : Allocation} (ha : SmA a) : ∃ b, Ev (fun K _ => alloccheck_Justified K c a) b ∧ Ev (fun K _ => ref32_Justified K c a) b := by
 cases hv : validB c with
 | false =>
  refine ⟨false, ?_, ?_⟩
  ·unfold alloccheck_Justified
   exact Ev.bind (ev_vvalid h.sm) (Ev.t (by rw [hv]; rfl) (Ev.some _))
  ·unfold ref32_Justified
   exact Ev.bind (ev_rvalid h.sm) (Ev.t (by rw [hv]; rfl) (Ev.some _))
 | true => exact ⟨JB c a, ev_pjust (h.vd hv) ha, ev_rjust (h.vd hv) ha⟩
structure BS (bs : List Block) : Prop where
 l : bs.length ≤ 1000
 i : ∀ b, b ∈ bs → b.Instrs.length ≤ 1000
theorem BS.set {bs : List Block} (h : BS bs) (m : Nat) {b : Block} (hb : b.Instrs.length ≤ 1000) : BS (bs.set m b) := ⟨by simp; exact h.l, fun x hx => by
 rcases List.mem_or_eq_of_mem_set hx with q | q
 ·exact h.i x q
 ·rw [q]; exact hb⟩
theorem BS.bd {P R : Int} {bs : List Block} (h : BS bs) : Bd ⟨P, R, bs⟩ := ⟨by have := h.l; show bs.length ≤ _; omega, fun b hb => by have := h.i b hb; omega⟩
theorem word_e {β : Type} (a b : Int) {g : Nat → Nat → Int → Option β} {Q : β → Prop} (k : ∀ r, OkE (fun K k => g K k r) Q) : OkE (fun K k => (keep_Word a b).bind (g K k)) Q := by
 obtain ⟨r, e⟩ := word_ok a b
 exact OkE.bindO e (k r)
theorem mutA_ok {P R : Int} {bs : List Block} {m : Int} {b : Block} {j : Int} {v : VInstr} {n k : Int} (h : BS bs) (hb : b.Instrs.length ≤ 1000) (hv : v.Args.length ≤ 17592186044000) : OkE (fun _ _ => mutA P R bs m b j v n k) Bd := by
 have hl := h.l
 have s : ∀ {is : List VInstr} {e r t f : Int}, is.length ≤ 1000 → ∀ P R, Bd ⟨P, R, bs.set m.toNat ⟨is, e, r, t, f⟩⟩ := fun hi P R => (h.set m.toNat (b := ⟨_, _, _, _, _⟩) hi).bd
 unfold mutA
 refine OkE.cnd (fun _ => OkE.some _ (s hb _ _)) fun _ => OkE.cnd (fun _ => OkE.some _ (s hb _ _)) fun _ => OkE.cnd (fun _ => OkE.some _ (s hb _ _)) fun _ => OkE.cnd (fun _ => OkE.some _ (s hb _ _)) fun _ => OkE.cnd (fun _ => OkE.some _ (s hb _ _)) fun _ => OkE.cnd (fun _ => OkE.some _ (s hb _ _)) fun _ => ?_
 refine OkE.cnd (fun _ => OkE.some _ (s (by simpa using hb) _ _)) fun _ => OkE.cnd (fun _ => OkE.some _ (s (by simpa using hb) _ _)) fun _ => OkE.cnd (fun _ => OkE.some _ (s (by simpa using hb) _ _)) fun _ => OkE.cnd (fun _ => OkE.some _ (s (by simpa using hb) _ _)) fun _ => ?_
 refine OkE.cnd (fun _ => word_e _ _ fun u => OkE.some _ (s (by simpa using hb) _ _)) fun _ => OkE.cnd (fun _ => OkE.bindO (app_eq (by simp; omega) (by simp; omega)) (OkE.bindO (app_eq (by simp; omega) (by simp; omega)) (OkE.some _ (s (by simpa using hb) _ _)))) fun _ => OkE.cnd (fun _ => ?_) fun _ => OkE.some _ (s hb _ _)
 have hB := h.set m.toNat (b := ⟨b.Instrs, b.End, b.Reg, b.Target, b.Else⟩) hb
 generalize bs.set m.toNat ⟨b.Instrs, b.End, b.Reg, b.Target, b.Else⟩ = B at hB
 have hBl := hB.l
 obtain ⟨q, hq, hq2⟩ : ∃ q : Nat, (if (0 : Int) < (if (B.length : Int) < n then (B.length : Int) else n) then (if (B.length : Int) < n then (B.length : Int) else n) else 0) = (q : Int) ∧ q ≤ B.length := by
  refine ⟨(if (0 : Int) < (if (B.length : Int) < n then (B.length : Int) else n) then (if (B.length : Int) < n then (B.length : Int) else n) else 0).toNat, ?_, ?_⟩
  ·split
   ·split <;> omega
   ·split <;> omega
  ·split
   ·split <;> omega
   ·omega
 rw [hq]
 exact OkE.bindO (subHi_eq hq2) (OkE.some _ ⟨by show (B.take q).length ≤ _; simp; omega, fun x hx => by have := hB.i x (List.mem_of_mem_take hx); omega⟩)
theorem mutB_ok {P R : Int} {bs : List Block} {m : Int} {b : Block} {n k : Int} (h : BS bs) (hb : b.Instrs.length ≤ 1000) : OkE (fun _ _ => mutB P R bs m b n k) Bd := by
 have hl := h.l
 have s : ∀ {is : List VInstr} {e r t f : Int}, is.length ≤ 1000 → ∀ P R, Bd ⟨P, R, bs.set m.toNat ⟨is, e, r, t, f⟩⟩ := fun hi P R => (h.set m.toNat (b := ⟨_, _, _, _, _⟩) hi).bd
 unfold mutB
 refine OkE.cnd (fun _ => OkE.some _ (s hb _ _)) fun _ => OkE.cnd (fun _ => OkE.some _ (s hb _ _)) fun _ => OkE.cnd (fun _ => OkE.some _ (s hb _ _)) fun _ => OkE.cnd (fun _ => OkE.some _ (s hb _ _)) fun _ => OkE.cnd (fun _ => OkE.some _ (s hb _ _)) fun _ => OkE.cnd (fun _ => OkE.some _ (s hb _ _)) fun _ => ?_
 refine OkE.cnd (fun _ => OkE.some _ (s hb _ _)) fun _ => OkE.cnd (fun _ => OkE.some _ (s hb _ _)) fun _ => OkE.cnd (fun _ => OkE.some _ (s hb _ _)) fun _ => OkE.cnd (fun _ => OkE.some _ (s hb _ _)) fun _ => ?_
 refine OkE.cnd (fun _ => word_e _ _ fun u => OkE.some _ (s hb _ _)) fun _ => OkE.cnd (fun _ => OkE.bindO (app_eq (by simp) (by simp)) (OkE.bindO (app_eq (by simp) (by simp)) (OkE.some _ (s hb _ _)))) fun _ => OkE.cnd (fun _ => ?_) fun _ => OkE.some _ (s hb _ _)
 have hB := h.set m.toNat (b := ⟨b.Instrs, b.End, b.Reg, b.Target, b.Else⟩) hb
 generalize bs.set m.toNat ⟨b.Instrs, b.End, b.Reg, b.Target, b.Else⟩ = B at hB
 have hBl := hB.l
 obtain ⟨q, hq, hq2⟩ : ∃ q : Nat, (if (0 : Int) < (if (B.length : Int) < n then (B.length : Int) else n) then (if (B.length : Int) < n then (B.length : Int) else n) else 0) = (q : Int) ∧ q ≤ B.length := by
  refine ⟨(if (0 : Int) < (if (B.length : Int) < n then (B.length : Int) else n) then (if (B.length : Int) < n then (B.length : Int) else n) else 0).toNat, ?_, ?_⟩
  ·split
   ·split <;> omega
   ·split <;> omega
  ·split
   ·split <;> omega
   ·omega
 rw [hq]
 exact OkE.bindO (subHi_eq hq2) (OkE.some _ ⟨by show (B.take q).length ≤ _; simp; omega, fun x hx => by have := hB.i x (List.mem_of_mem_take hx); omega⟩)
theorem next_e {β : Type} (d : Fullingkeep2Digits) {m : Int} (h0 : 0 < m) (h1 : m ≤ 1000000000000) {g : Nat → Nat → Int × Fullingkeep2Digits → Option β} {Q : β → Prop} (k : ∀ r, OkE (fun K k => g K k r) Q) : OkE (fun K k => (keep2_Digits_Next d m).bind (g K k)) Q := by
 obtain ⟨r, d', e, _⟩ := next_ok d h0 h1
 exact OkE.bindO e (k _)
theorem mut_vf {p : Int} {c : VFunc} (h : VF p c) (how at_ : Int) : OkE (fun K _ => keep2_MutateVFunc K c how at_) Bd := by
 have hl := h.len
 have hv := h.vd
 have hbs : BS c.Blocks := ⟨by omega, fun b hb => by
  obtain ⟨k, hk, rfl⟩ := mem_bk hb
  have := h.ilen hk; omega⟩
 have hargs : ∀ b, b ∈ c.Blocks → ∀ v, v ∈ b.Instrs → v.Args.length ≤ 6 := fun b hb v hv' => by
  obtain ⟨k, hk, rfl⟩ := mem_bk hb
  exact (hv.i hk hv').n
 unfold keep2_MutateVFunc
 have l1 : OkE (fun K k => keep2_MutateVFunc_l1 K c k (0, [])) (fun bs => (BS bs ∧ bs.length = c.Blocks.length) ∧ ∀ b, b ∈ bs → ∀ v, v ∈ b.Instrs → v.Args.length ≤ 6) := by
  have key : ∀ (n i : Nat) (bs : List Block), i + n = c.Blocks.length → bs.length = i → BS bs → (∀ b, b ∈ bs → ∀ v, v ∈ b.Instrs → v.Args.length ≤ 6) → OkE (fun K k => keep2_MutateVFunc_l1 K c k ((i : Int), bs)) (fun bs => (BS bs ∧ bs.length = c.Blocks.length) ∧ ∀ b, b ∈ bs → ∀ v, v ∈ b.Instrs → v.Args.length ≤ 6) := by
   intro n
   induction n with
   | zero =>
    intro i bs hi hb hbs' ha
    exact OkE.step (fun K k => rfl) (OkE.ev (Ev.f (by simp; omega) (Ev.some _)) ⟨⟨hbs', by show bs.length = _; omega⟩, ha⟩)
   | succ n ih =>
    intro i bs hi hb hbs' ha
    refine OkE.step (fun K k => rfl) (OkE.cnd (fun _ => OkE.idx (by omega) (by omega) fun y hy => ?_) (fun q => by have := of_decide_eq_false q; omega))
    have hyl := hbs.i y hy
    refine OkE.bindO (app_eq (by simp; omega) (by simp; omega)) (OkE.bindO (app_eq (by simp; omega) (by simp; omega)) ?_)
    rw [w64_succ (i := i) (by omega)]
    refine ih (i + 1) _ (by omega) (by simp [hb]) ⟨by simp; omega, fun x hx => ?_⟩ (fun x hx v hv' => ?_)
    ·rcases List.mem_append.1 hx with q | q
     ·exact hbs'.i x q
     ·rw [List.mem_singleton.1 q]; simpa using hyl
    ·rcases List.mem_append.1 hx with q | q
     ·exact ha x q v hv'
     ·rw [List.mem_singleton.1 q] at hv'; exact hargs y hy v (by simpa using hv')
  exact key c.Blocks.length 0 [] (by omega) rfl ⟨by simp, fun b hb => by simp at hb⟩ (fun b hb => by simp at hb)
 refine OkE.bind (OkE.loop l1) fun bs hbs2 => ?_
 obtain ⟨⟨hB, hBl⟩, hBa⟩ := hbs2
 refine OkE.pick at_ (m := (bs.length : Int)) (by omega) (by omega) fun m h0 h1 => OkE.idx h0 h1 fun b hb => ?_
 have hbl := hB.i b hb
 refine OkE.cnd (fun q => ?_) (fun q => ?_)
 ·have hpos : 0 < b.Instrs.length := by have := of_decide_eq_true q; omega
  refine OkE.pick _ (m := (b.Instrs.length : Int)) (by omega) (by omega) fun j h2 h3 => OkE.idx h2 h3 fun v hv' => next_e _ (by decide) (by decide) fun r6 => next_e _ (by decide) (by decide) fun r7 => ?_
  have := hBa b hb v hv'
  exact mutA_ok hB hbl (by omega)
 ·exact next_e _ (by decide) (by decide) fun r6 => next_e _ (by decide) (by decide) fun r7 => mutB_ok hB hbl
end Go.Proofs.YtocfnpnnbmicmaaDoor.Tc
end
section
set_option maxRecDepth 100000
namespace Go.Proofs.YtocfnpnnbmicmaaDoor.Tc
open Go
theorem exm18 (K : Nat) : law35_AllocCheckExamples (K + 100) = some true := by kernel_rfl
theorem ev_ex18 : Ev (fun K _ => law35_AllocCheckExamples K) true := ⟨100, fun K k hK hk => by
 obtain ⟨j, rfl⟩ : ∃ j, K = j + 100 := ⟨K - 100, by omega⟩
 exact exm18 j⟩
end Go.Proofs.YtocfnpnnbmicmaaDoor.Tc
end
section
set_option linter.unusedVariables false
set_option linter.unusedSimpArgs false
namespace Go.Proofs.YtocfnpnnbmicmaaDoor.Tc
open Go
theorem raw_bd20 {c : VFunc} (h : ok_VFunc c) : Bd c := by
 have h1 := h.2.2.1.1
 unfold reachBytes at h1
 refine ⟨by omega, fun b hb => ?_⟩
 have h2 := (h.2.2.2 b hb).1.1.1
 unfold reachBytes at h2
 omega
theorem inv_l2 {y : VFunc} (h0 : 0 ≤ y.Regs) (h1 : y.Regs ≤ 200) : OkE (fun K k => law35_AllocCheckInvalid_l2 K y k (0, List.replicate y.Regs.toNat ⟨false, 0⟩)) (fun _ => True) := by
 have key : ∀ n r : Nat, ∀ s : List Location, r + n = y.Regs.toNat → s.length = y.Regs.toNat → OkE (fun K k => law35_AllocCheckInvalid_l2 K y k ((r : Int), s)) (fun _ => True) := by
  intro n
  induction n with
  | zero => intro r s hr hs; exact OkE.step (fun K k => rfl) (OkE.ev (Ev.f (by simp; omega) (Ev.some _)) trivial)
  | succ n ih =>
   intro r s hr hs
   refine OkE.step (fun K k => rfl) (OkE.cnd (fun _ => OkE.idx (by omega) (by show (r : Int) < s.length; omega) fun y45 _ => ?_) (fun q => by have := of_decide_eq_false q; simp at this; omega))
   rw [w64_succ (i := r) (by omega)]
   exact ih (r + 1) _ (by omega) (by simp [hs])
 exact key y.Regs.toNat 0 _ (by omega) (by simp)
theorem mt20_l1 {a d : VFunc} (h : ∀ x, x ∈ [a, d] → Bd x) : Ev (fun K k => law35_AllocCheckInvalid_l1 K a d k 0) (.inl ()) := by
 have key : Ev (fun K k => law35_AllocCheckInvalid_l1 K a d k ((0 : Nat) : Int)) (.inl ()) := by
  refine upto (P := fun i => Ev (fun K k => law35_AllocCheckInvalid_l1 K a d k (i : Int)) (.inl ())) (n := 2) (Ev.step (fun K k => rfl) (Ev.f (by simp) (Ev.inn ()))) fun i hi ih => ?_
  have hlt : i < [a, d].length := by simpa using hi
  have hg := idx_get hlt
  have hy := h _ (List.getElem_mem hlt)
  generalize [a, d][i] = y at hg hy
  refine Ev.step (fun K k => rfl) (Ev.t (by simp; omega) (Ev.sql (s := ()) (Ev.bindO hg (Ev.cnd (fun _ => Ev.inn ()) (fun q => ?_))) ?_))
  ·have hr : 0 ≤ y.Regs ∧ y.Regs ≤ 200 := by simp at q; omega
   obtain ⟨s, es, _⟩ := inv_l2 hr.1 hr.2
   have hm : mk 16 y.Regs (⟨false, 0⟩ : Location) = some (List.replicate y.Regs.toNat ⟨false, 0⟩) := by
    have := mk_eq (bytes := 16) (n := y.Regs.toNat) (y := (⟨false, 0⟩ : Location)) (by omega) (by omega)
    rwa [show ((y.Regs.toNat : Nat) : Int) = y.Regs by omega] at this
   obtain ⟨b1, s1, s2⟩ := both_sound hy (⟨s, [], w64 (1 + y.Regs)⟩ : Allocation)
   obtain ⟨b2, j1, j2⟩ := both_just hy (a := (⟨s, [], w64 (1 + y.Regs)⟩ : Allocation)) ⟨by simp, fun s hs => by simp at hs⟩
   exact Ev.bindO hm (Ev.bind (Ev.loop es) (Ev.bind (x := false) (Ev.bind s1 (Ev.bind s2 (Ev.f (by simp) (Ev.bind j1 (Ev.bind j2 ((Ev.some _).cast (by simp))))))) (Ev.f rfl (Ev.inn ()))))
  ·rw [w64_succ (i := i) (by omega)]; exact ih
 simpa using key
theorem pure20 (raw : VFunc) (l : List Int) (a2 a3 : Int) (locs : List Int) (hraw : ok_VFunc raw) (_ : lenOk 8 l ∧ ∀ x, x ∈ l → I64 x) (_ : I64 a2) (_ : I64 a3) (_ : lenOk 8 locs ∧ ∀ x, x ∈ locs → I64 x) : ∃ K, law35_AllocCheckInvalid K raw l a2 a3 locs = some true := by
 refine Ev.fst ?_
 unfold law35_AllocCheckInvalid
 refine Ev.cnd (fun _ => Ev.bind ev_ex18 (Ev.some _)) (fun _ => ?_)
 obtain ⟨c, ec, hc⟩ := ev_vfunc (l := l.take 30) (by simp; omega) (p := 1) (by omega) (by omega)
 obtain ⟨d, ed, hd⟩ := mut_vf hc a2 a3
 refine Ev.bindO (take36 l 30) (Ev.bind ec (Ev.bind ed (Ev.sql (Ev.loop (mt20_l1 fun x hx => ?_)) (Ev.bind ev_ex18 (Ev.some _)))))
 simp only [List.mem_cons, List.not_mem_nil, or_false] at hx
 rcases hx with rfl | rfl
 ·exact raw_bd20 hraw
 ·exact hd
end Go.Proofs.YtocfnpnnbmicmaaDoor.Tc
end
