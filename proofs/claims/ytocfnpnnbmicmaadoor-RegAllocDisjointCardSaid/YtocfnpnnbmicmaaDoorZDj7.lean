/- The plain laws: what the pure functions come to. -/
import Derived.Test.YtocfnpnnbmicmaaDoorZDj6
section
set_option linter.unusedVariables false
set_option linter.unusedSimpArgs false
namespace Go.Proofs.YtocfnpnnbmicmaaDoor.Tc
open Go
noncomputable def PTs (c : VFunc) : List (List (List Int)) := (List.range c.Blocks.length).map (PT c)
theorem PTs_idx {c : VFunc} {k : Nat} (hk : k < c.Blocks.length) : idx (PTs c) (k : Int) = some (PT c k) := idx_eq (by unfold PTs; rw [List.getElem?_map, List.getElem?_range hk]; rfl)
theorem PT_idx {c : VFunc} {k i : Nat} (h : i ≤ (bk c k).Instrs.length) : idx (PT c k) (i : Int) = some (lp (bk c k) (LO c k) i) := idx_eq (PT_get h)
abbrev PS8 := Int × Int × (List Block) × (List (List (List Int))) × Int × (List Bool) × (List Location) × (List Spill)
noncomputable def pt (c : VFunc) (st : AState) (loc : List Location) : PS8 := (c.Params, c.Regs, c.Blocks, PTs c, 0, st.sp, loc, st.ss)
noncomputable def pg (c : VFunc) (st : AState) (loc : List Location) : RegallocAllocator := ⟨c, PTs c, st.sp, ⟨loc, st.ss, 0⟩⟩
theorem pspill_eq {c : VFunc} {st : AState} {loc : List Location} {x : Spill} (h0 : 0 ≤ x.Reg) (h1 : x.Reg < st.sp.length) (hl : st.ss.length ≤ 5000) : regalloc_allocator_spill (pg c st loc) x = some (pg c (spl st x) loc) := by
 unfold regalloc_allocator_spill pg
 simp only [isSp_idx h0 h1, Option.bind_some]
 rw [app_eq (by simp; omega) (by simp; omega)]; rfl
theorem ev_punsp {c : VFunc} (h : Vd c) {a : RegallocAllocator} (hl : a.spilled.length = c.Regs.toNat) {l : List Int} (hr : RS c l) : Ev (fun K _ => regalloc_allocator_unspilled K a l) (unsp a.spilled l) := by
 have hlen := hr.len h
 have loop : ∀ (m p s : List Int), l = p ++ m → s.length + m.length ≤ 3000 → Ev (fun K k => regalloc_allocator_unspilled_l1 K a l k ((p.length : Int), s)) (s ++ unsp a.spilled m) := by
  intro m
  induction m with
  | nil =>
   intro p s e _
   refine Ev.step (fun K k => rfl) (Ev.f ?_ ((Ev.some _).cast (by simp [unsp])))
   subst e; simp
  | cons y m ih =>
   intro p s e hs
   have hg : idx l (p.length : Int) = some y := idx_eq (by subst e; simp)
   have hlt : (p.length : Int) < (l.length : Int) := by subst e; simp; omega
   have hw : w64 ((p.length : Int) + 1) = ((p ++ [y]).length : Int) := by
    rw [w64_id (by omega) (by omega)]; simp
   have hy := hr.r y (by subst e; simp)
   simp only [List.length_cons] at hs
   have hsp := isSp_idx (sp := a.spilled) hy.1 (by omega)
   cases hb : isSp a.spilled y with
   | true =>
    rw [hb] at hsp
    refine Ev.step (fun K k => rfl) (Ev.t (by simpa using hlt) (Ev.bind (x := s) (Ev.bindO hg (Ev.bindO hsp (Ev.f rfl (Ev.some _)))) ?_))
    simp only [hw]
    refine (ih (p ++ [y]) s (by subst e; simp) (by omega)).cast ?_
    unfold unsp; rw [List.filter_cons, hb]; rfl
   | false =>
    rw [hb] at hsp
    refine Ev.step (fun K k => rfl) (Ev.t (by simpa using hlt) (Ev.bind (x := s ++ [y]) (Ev.bindO hg (Ev.bindO hsp (Ev.t rfl (Ev.bindO (app_eq (by simp; omega) (by simp; omega)) (Ev.some _))))) ?_))
    simp only [hw]
    refine (ih (p ++ [y]) (s ++ [y]) (by subst e; simp) (by simp; omega)).cast ?_
    unfold unsp; rw [List.filter_cons, hb]; simp
 unfold regalloc_allocator_unspilled
 exact Ev.bind (Ev.loop (loop l [] [] rfl (by simpa using hlen))) ((Ev.some _).cast (by simp))
def ptL (l : List RegallocPoint) (r : Int) : RegallocPoint := l.getD r.toNat ⟨0, 0⟩
theorem ptL_idx {l : List RegallocPoint} {r : Int} (h0 : 0 ≤ r) (h1 : r < l.length) : idx l r = some (ptL l r) := by
 have hlt : r.toNat < l.length := by omega
 have := idx_get hlt
 rw [show ((r.toNat : Nat) : Int) = r by omega] at this
 unfold ptL
 rw [this, List.getD_eq_getElem?_getD, List.getElem?_eq_getElem hlt]; rfl
theorem ptL_set {l : List RegallocPoint} {x : Int} {p : RegallocPoint} (h0 : 0 ≤ x) (h1 : x < l.length) {r : Int} (hr : 0 ≤ r) : ptL (l.set x.toNat p) r = if r = x then p else ptL l r := by
 unfold ptL
 rw [List.getD_eq_getElem?_getD, List.getD_eq_getElem?_getD]
 by_cases e : r = x
 ·subst e; rw [if_pos rfl, List.getElem?_set_self (by omega)]; rfl
 ·rw [if_neg e, List.getElem?_set_ne (by omega)]
def noB (c : VFunc) (k i : Nat) (y : Int) : Prop := ∀ k' i', k' < c.Blocks.length → i' < (bk c k').Instrs.length → (k' < k ∨ k' = k ∧ i' < i) → y ∉ acv (iAt (bk c k') i') (lp (bk c k') (LO c k') (i' + 1))
structure FS (c : VFunc) (k i : Nat) (p : List Int) (s : (List Bool) × (List RegallocPoint)) : Prop where
 l1 : s.1.length = c.Regs.toNat
 l2 : s.2.length = c.Regs.toNat
 t : ∀ y : Int, 0 ≤ y → y < c.Regs → isSp s.1 y = true → ∃ k' i', Fst c y k' i' ∧ ptL s.2 y = ⟨(k' : Int), (i' : Int)⟩
 f : ∀ y : Int, 0 ≤ y → y < c.Regs → isSp s.1 y = false → noB c k i y ∧ y ∉ p
theorem pca_l3 {c : VFunc} (h : Vd c) {k i : Nat} (hk : k < c.Blocks.length) (hi : i < (bk c k).Instrs.length) {l : List Int} (hl : l.length ≤ 10000) (hm : ∀ y, y ∈ l → (0 ≤ y ∧ y < c.Regs) ∧ y ∈ acv (iAt (bk c k) i) (lp (bk c k) (LO c k) (i + 1))) {s12 s23 : Int × (List Bool) × (List RegallocPoint)} (h12 : s12.1 = (k : Int)) (h23 : s23.1 = (i : Int)) {s : (List Bool) × (List RegallocPoint)} (hs : FS c k i [] s) : ∃ s', FS c k i l s' ∧ Ev (fun K n => regalloc_allocator_spillAcrossCalls_l3 K s12 s23 l l n (0, s)) s' := by
 obtain ⟨s', hs', el⟩ := ev_foldi l (fun K n j s => regalloc_allocator_spillAcrossCalls_l3 K s12 s23 l l n (j, s)) id (fun (_ : Unit) _ => ()) (fun j _ s => FS c k i (l.take j) s)
  (fun a s hs => Ev.step (fun K k => rfl) (Ev.f (by simp) (Ev.some _)))
  (fun j y _ s hy hj hs => by
   have hyl := List.mem_of_getElem? hy
   obtain ⟨hyr, hya⟩ := hm y hyl
   have e1 := isSp_idx (sp := s.1) hyr.1 (by have := hs.l1; omega)
   have e2 := ptL_idx (l := s.2) hyr.1 (by have := hs.l2; omega)
   have htake : l.take (j + 1) = l.take j ++ [y] := by rw [List.take_add_one, hy]; rfl
   have key : ∃ s', FS c k i (l.take (j + 1)) s' ∧ Ev (fun (K n : Nat) => Option.bind (idx l (j : Int)) (fun y60 => (Option.bind (idx s.1 y60) (fun y62 => (cnd (!y62) (Option.bind (idx s.1 y60) (fun y65 => (Option.bind (idx s.2 y60) (fun y67 => (some ((s.1.set y60.toNat true), (s.2.set y60.toNat (⟨s12.1, s23.1⟩ : RegallocPoint)))))))) (some (s.1, s.2))))))) s' := by
    cases hsp : isSp s.1 y with
    | true =>
     rw [hsp] at e1
     refine ⟨s, ⟨hs.l1, hs.l2, hs.t, fun z h0 h1 hz => ⟨(hs.f z h0 h1 hz).1, ?_⟩⟩, Ev.bindO (idx_eq hy) (Ev.bindO e1 (Ev.f rfl (Ev.some _)))⟩
     rw [htake, List.mem_append, List.mem_singleton]
     rintro (q | q)
     ·exact (hs.f z h0 h1 hz).2 q
     ·rw [q, hsp] at hz; cases hz
    | false =>
     have hf := hs.f y hyr.1 hyr.2 hsp
     have e1' := e1
     rw [hsp] at e1
     refine ⟨(s.1.set y.toNat true, s.2.set y.toNat ⟨(k : Int), (i : Int)⟩), ⟨by simp [hs.l1], by simp [hs.l2], fun z h0 h1 hz => ?_, fun z h0 h1 hz => ?_⟩, Ev.bindO (idx_eq hy) (Ev.bindO e1 (Ev.t rfl (Ev.bindO e1' (Ev.bindO e2 ((Ev.some _).cast (by rw [h12, h23]))))))⟩
     ·have hp := ptL_set (l := s.2) (p := ⟨(k : Int), (i : Int)⟩) hyr.1 (by have := hs.l2; omega) h0
      show ∃ k' i', _ ∧ ptL (s.2.set _ _) z = _
      rw [hp]
      by_cases e : z = y
      ·exact ⟨k, i, by rw [e]; exact ⟨hk, hi, hya, hf.1⟩, by rw [if_pos e]⟩
      ·rw [if_neg e]
       refine hs.t z h0 h1 ?_
       have hz2 : isSp (s.1.set y.toNat true) z = true := hz
       rw [isSp_set hyr.1 (by have := hs.l1; omega) h0] at hz2
       simpa [e] using hz2
     ·have hz2 : isSp (s.1.set y.toNat true) z = false := hz
      rw [isSp_set hyr.1 (by have := hs.l1; omega) h0, Bool.or_eq_false_iff, beq_eq_false_iff_ne] at hz2
      refine ⟨(hs.f z h0 h1 hz2.1).1, ?_⟩
      rw [htake, List.mem_append, List.mem_singleton]
      rintro (q | q)
      ·exact (hs.f z h0 h1 hz2.1).2 q
      ·exact hz2.2 q
   obtain ⟨s', hs', ek⟩ := key
   refine ⟨s', hs', fun r hr => Ev.step (fun K k => rfl) (Ev.t (by simpa using hj) (Ev.bind ek ?_))⟩
   simp only [w64_succ (i := j) (by omega)]; exact hr) () s (by simpa using hs)
 exact ⟨s', by simpa using hs', el⟩
theorem pca_l2 {c : VFunc} (h : Vd c) {k : Nat} (hk : k < c.Blocks.length) {g : RegallocAllocator} (hg : g.at_ = PTs c) {s12 : Int × (List Bool) × (List RegallocPoint)} (h12 : s12.1 = (k : Int)) {s : (List Bool) × (List RegallocPoint)} (hs : FS c k 0 [] s) : ∃ s', FS c (k + 1) 0 [] s' ∧ Ev (fun K n => regalloc_allocator_spillAcrossCalls_l2 K g s12 (bk c k) n (0, s)) s' := by
 have hlen := h.len hk
 obtain ⟨s', hs', el⟩ := ev_foldi (List.range (bk c k).Instrs.length) (fun K n j s => regalloc_allocator_spillAcrossCalls_l2 K g s12 (bk c k) n (j, s)) id (fun (_ : Unit) _ => ()) (fun j _ s => FS c k j [] s)
  (fun a s hs => Ev.step (fun K k => rfl) (Ev.f (by simp) (Ev.some _)))
  (fun j i _ s hx hj hs => by
   obtain ⟨rfl, hj⟩ := rng_get hx
   have hv := h.ia hk hj
   have hl := RS.lp (h.iv hk) (h.e hk) (RS.LO h k) (i + 1)
   have hgv := iAt_get hj
   have nxt : ∀ {s' : (List Bool) × (List RegallocPoint)} {p : List Int}, FS c k i p s' → (∀ y, y ∈ acv (iAt (bk c k) i) (lp (bk c k) (LO c k) (i + 1)) → y ∈ p) → FS c k (i + 1) [] s' := fun hs' hp => ⟨hs'.l1, hs'.l2, hs'.t, fun y h0 h1 hy => ⟨fun k' i' a1 a2 a3 a4 => by
    have := hs'.f y h0 h1 hy
    by_cases e : k' = k ∧ i' = i
    ·obtain ⟨rfl, rfl⟩ := e; exact this.2 (hp y a4)
    ·exact this.1 k' i' a1 a2 (by omega) a4, by simp⟩⟩
   have key : ∃ s', FS c k (i + 1) [] s' ∧ Ev (fun (K n : Nat) => Option.bind (idx (bk c k).Instrs (i : Int)) (fun y31 => (cnd (y31.Instr.Op != 6) (some (s.1, s.2)) (Option.bind (vcode_Reads K y31) (fun r35 => (Option.bind (idx g.at_ s12.1) (fun y38 => (Option.bind (idx y38 (w64 ((i : Int) + 1))) (fun y40 => (Option.bind (regalloc_without K y40 y31.Instr.A) (fun r42 => (Option.bind (app 8 r35 r42) (fun l44 => (Option.bind (regalloc_allocator_spillAcrossCalls_l3 K s12 ((i : Int), s) l44 l44 K (0, s.1, s.2)) (fun s47 => (some (s47.1, s47.2))))))))))))))))) s' := by
    by_cases h6 : (iAt (bk c k) i).Instr.Op = 6
    ·have l1 := hl.len h
     have l2 := (hl.mns [(iAt (bk c k) i).Instr.A]).len h
     have l3 := uc_rdl h hv
     have hmem : ∀ y, y ∈ rd (iAt (bk c k) i) ++ mns (lp (bk c k) (LO c k) (i + 1)) [(iAt (bk c k) i).Instr.A] ↔ y ∈ acv (iAt (bk c k) i) (lp (bk c k) (LO c k) (i + 1)) := fun y => by
      unfold acv
      have : ((iAt (bk c k) i).Instr.Op == 6) = true := by simpa using h6
      rw [this, if_pos rfl, mem_uni, List.mem_append]; exact or_comm
     obtain ⟨s', hs', e3⟩ := pca_l3 h hk hj (l := rd (iAt (bk c k) i) ++ mns (lp (bk c k) (LO c k) (i + 1)) [(iAt (bk c k) i).Instr.A]) (by rw [List.length_append]; omega) (fun y hy => ⟨(RS.acv hv hl).r y ((hmem y).1 hy), (hmem y).1 hy⟩) h12 (s23 := ((i : Int), s)) rfl hs
     have ei := PT_idx (c := c) (k := k) (i := i + 1) (by omega)
     rw [← w64_succ (i := i) (by omega)] at ei
     have ek := PTs_idx hk
     rw [← h12, ← hg] at ek
     exact ⟨s', nxt hs' fun y hy => (hmem y).2 hy, Ev.bindO (idx_eq hgv) (Ev.f (by simp [h6]) (Ev.bind (ev_vreads (by have := hv.n; omega)) (Ev.bindO ek (Ev.bindO ei (Ev.bind (ev_without (by omega)) (Ev.bindO (app_eq (by omega) (by omega)) (Ev.bind (Ev.loop e3) (Ev.some _))))))))⟩
    ·exact ⟨s, nxt hs fun y hy => by rw [acv_nil h6] at hy; exact hy, Ev.bindO (idx_eq hgv) (Ev.t (by simp [h6]) (Ev.some _))⟩
   obtain ⟨s', hs', ek⟩ := key
   refine ⟨s', hs', fun r hr => Ev.step (fun K k => rfl) (Ev.t (by simpa using hj) (Ev.bind ek ?_))⟩
   simp only [w64_succ (i := i) (by omega)]; exact hr) () s hs
 refine ⟨s', ⟨hs'.l1, hs'.l2, hs'.t, fun y h0 h1 hy => ⟨fun k' i' a1 a2 a3 a4 => ?_, by simp⟩⟩, el⟩
 refine (hs'.f y h0 h1 hy).1 k' i' a1 a2 ?_ a4
 simp only [List.length_range]
 by_cases e : k' = k
 ·subst e; exact .inr ⟨rfl, a2⟩
 ·exact .inl (by omega)
theorem pca_l1 {c : VFunc} (h : Vd c) {g : RegallocAllocator} (hg : g.at_ = PTs c) (hc : g.c = c) : ∃ s', FS c c.Blocks.length 0 [] s' ∧ Ev (fun K n => regalloc_allocator_spillAcrossCalls_l1 K g n (0, List.replicate c.Regs.toNat false, List.replicate c.Regs.toNat ⟨0, 0⟩)) s' := by
 have hb1 := h.h.b1
 obtain ⟨s', hs', el⟩ := ev_foldi (List.range c.Blocks.length) (fun K n j s => regalloc_allocator_spillAcrossCalls_l1 K g n (j, s)) id (fun (_ : Unit) _ => ()) (fun j _ s => FS c j 0 [] s)
  (fun a s hs => Ev.step (fun K k => rfl) (Ev.f (by simp [hc]) (Ev.some _)))
  (fun j k _ s hx hj hs => by
   obtain ⟨rfl, hj⟩ := rng_get hx
   obtain ⟨s', hs', e1⟩ := pca_l2 h hj hg (s12 := ((k : Int), s)) rfl hs
   have eb := bk_idx hj
   rw [← hc] at eb
   have hlt : (k : Int) < (g.c.Blocks.length : Int) := by rw [hc]; omega
   rw [← hc] at e1
   refine ⟨s', hs', fun r hr => Ev.step (fun K k => rfl) (Ev.t (by simpa using hlt) (Ev.bindO eb (Ev.bind (Ev.loop e1) ?_)))⟩
   simp only [w64_succ (i := k) (by omega)]; exact hr) () (List.replicate c.Regs.toNat false, List.replicate c.Regs.toNat ⟨0, 0⟩) ⟨by simp, by simp, fun y h0 h1 hy => (by
    unfold isSp at hy
    rw [List.getD_eq_getElem?_getD, List.getElem?_replicate] at hy
    split at hy <;> simp at hy), fun y h0 h1 hy => ⟨fun k' i' a1 a2 a3 => by omega, by simp⟩⟩
 exact ⟨s', by simpa using hs', el⟩
theorem ev_pspillCalls {c : VFunc} (h : Vd c) (loc : List Location) : Ev (fun K _ => regalloc_allocator_spillAcrossCalls K (pg c ⟨List.replicate c.Regs.toNat false, []⟩ loc)) (pg c (ph1 c) loc) := by
 have hrs := (ev_racross h).2
 have hlen := hrs.len h
 obtain ⟨s7, h7, e7⟩ := pca_l1 h (g := pg c ⟨List.replicate c.Regs.toNat false, []⟩ loc) rfl rfl
 obtain ⟨s', ⟨rfl, _, _⟩, el⟩ := ev_foldi (AC c) (fun K k i s => regalloc_allocator_spillAcrossCalls_l4 K s7 (AC c) k (i, s)) id (sp1 c) (fun n st s => s = pt c st loc ∧ st.sp.length = c.Regs.toNat ∧ st.ss.length ≤ n)
  (fun a s hs => Ev.step (fun K k => rfl) (Ev.f (by simp) (Ev.some _)))
  (fun i x st s hx hi hs => by
   obtain ⟨rfl, hl, hn⟩ := hs
   have hm := List.mem_of_getElem? hx
   have hxr := hrs.r x hm
   have hseen : isSp s7.1 x = true := by
    cases hb : isSp s7.1 x with
    | true => rfl
    | false =>
     obtain ⟨k, hk, i, hi, hmm⟩ := mem_AC.1 hm
     exact absurd hmm ((h7.f x hxr.1 hxr.2 hb).1 k i hk hi (.inl hk))
   obtain ⟨k, j, hf, hp⟩ := h7.t x hxr.1 hxr.2 hseen
   have ep := ptL_idx (l := s7.2) hxr.1 (by have := h7.l2; omega)
   rw [hp] at ep
   have e2 := pspill_eq (c := c) (loc := loc) (st := st) (x := ⟨x, 1, (k : Int), (j : Int), []⟩) hxr.1 (by show x < _; omega) (by omega)
   refine ⟨pt c (sp1 c st x) loc, ⟨rfl, by simp [sp1, spl, hl], by simp [sp1, spl]; omega⟩, fun r hr => Ev.step (fun K k => rfl) (Ev.t (by simpa using hi) (Ev.bindO (idx_eq hx) (Ev.bindO ep (Ev.bindO ep (Ev.bindO e2 ?_)))))⟩
   have e3 : sp1 c st x = spl st ⟨x, 1, (k : Int), (j : Int), []⟩ := by unfold sp1; rw [fcl_eq hf]
   rw [e3] at hr
   rw [w64_succ (i := i) (by omega)]
   exact hr) ⟨List.replicate c.Regs.toNat false, []⟩ (pt c ⟨List.replicate c.Regs.toNat false, []⟩ loc) ⟨rfl, by simp, by simp⟩
 unfold regalloc_allocator_spillAcrossCalls
 exact Ev.bindO (mkR h (by omega) _) (Ev.bindO (mkR h (by omega) _) (Ev.bind (Ev.loop e7) (Ev.bind (ev_pacross h) (Ev.bind (Ev.loop el) (Ev.some _)))))
theorem ppr_l4 {c : VFunc} (h : Vd c) {hh : List Int} (hr : RS c hh) {y : Int} {t : List Int} (e : hh = y :: t) {s : (List Int) × PS8} (hs1 : s.1 = hh) : Ev (fun K k => regalloc_allocator_reducePressure_l4 K (UC c) s k (y, 0)) (bst (UC c) hh) := by
 have hlen := hr.len h
 have key : ∀ n j b, j + n = hh.length → 0 ≤ b → b < c.Regs → Ev (fun K k => regalloc_allocator_reducePressure_l4 K (UC c) s k (b, (j : Int))) ((hh.drop j).foldl (fun b n => if wt (UC c) n ≤ wt (UC c) b then n else b) b) := by
  intro n
  induction n with
  | zero =>
   intro j b hj hb0 hb1
   have : j = hh.length := by omega
   subst this
   refine Ev.step (fun K k => rfl) (Ev.f (by rw [hs1]; simp) ((Ev.some _).cast ?_))
   rw [List.drop_length]; rfl
  | succ n ih =>
   intro j b hj hb0 hb1
   have hlt : j < hh.length := by omega
   have hg : idx s.1 (j : Int) = some hh[j] := by rw [hs1]; exact idx_get hlt
   have hxr := hr.r hh[j] (List.getElem_mem hlt)
   rw [drop_get hlt, List.foldl_cons]
   have w1 := wt_idx h hxr.1 hxr.2
   have w2 := wt_idx h hb0 hb1
   refine Ev.step (fun K k => rfl) (Ev.t (by rw [hs1]; simpa using hlt) (Ev.bind (x := if wt (UC c) hh[j] ≤ wt (UC c) b then hh[j] else b) (Ev.bindO hg (Ev.bindO w1 (Ev.bindO w2 ?_))) ?_))
   ·refine Ev.cnd (fun hc => (Ev.some _).cast ?_) (fun hc => (Ev.some _).cast ?_)
    ·rw [if_pos (of_decide_eq_true hc)]
    ·rw [if_neg (of_decide_eq_false hc)]
   ·simp only [w64_succ (i := j) (by omega)]
    refine ih (j + 1) _ (by omega) ?_ ?_
    ·split; exact hxr.1; exact hb0
    ·split; exact hxr.2; exact hb1
 have hy := hr.r y (by rw [e]; simp)
 have := key hh.length 0 y (by omega) hy.1 hy.2
 refine Ev.cast this ?_
 unfold bst
 rw [e]; rfl
theorem ppr_l3 {c : VFunc} (h : Vd c) {k i : Nat} (hk : k < c.Blocks.length) (hi : i ≤ (bk c k).Instrs.length) {loc : List Location} {s8 s19 : Int × PS8} (h8 : s8.1 = (k : Int)) (h19 : s19.1 = (i : Int)) : ∀ (n : Nat) (st : AState), SI c st → (n = (unsp st.sp (lp (bk c k) (LO c k) i)).length - 5) →
  Ev (fun K m => regalloc_allocator_reducePressure_l3 K (UC c) s8 s19 m (unsp st.sp (lp (bk c k) (LO c k) i), pt c st loc)) (pt c (prs (UC c) k i n (unsp st.sp (lp (bk c k) (LO c k) i)) st) loc) := by
 have hl := RS.lp (h.iv hk) (h.e hk) (RS.LO h k) i
 intro n
 induction n with
 | zero =>
  intro st hs hn
  exact Ev.step (fun K k => rfl) (Ev.f (by simp; omega) (Ev.some _))
 | succ n ih =>
  intro st hs hn
  have hsl := hs.l
  have hss := hs.len h
  have hr1 := h.h.r1
  have hu := hl.unsp st.sp
  have hulen := hu.len h
  have hbr0 := fun x hx => hu.r x hx
  have e8 := fun (x : Int) (h0 : 0 ≤ x) (h1 : x < c.Regs) => unsp_unsp hsl hl h0 h1
  generalize hh : unsp st.sp (lp (bk c k) (LO c k) i) = H at hn hu hulen e8
  obtain ⟨y, t, e⟩ : ∃ y t, H = y :: t := by
   cases H with
   | nil => simp at hn
   | cons y t => exact ⟨y, t, rfl⟩
  have hb : bst (UC c) H ∈ H := bst_mem (by rw [e]; simp)
  have hbr := hu.r _ hb
  have hbu : isSp st.sp (bst (UC c) H) = false := (mem_unsp.1 (hh.symm ▸ hb : bst (UC c) H ∈ unsp st.sp (lp (bk c k) (LO c k) i))).2
  have hmlen := mns_one_len hu.s hb
  have e1 : idx H 0 = some y := by rw [e]; exact idx_eq (i := 0) rfl
  have e3 := pspill_eq (c := c) (loc := loc) (st := st) (x := ⟨bst (UC c) H, 2, (k : Int), (i : Int), mns H [bst (UC c) H]⟩) hbr.1 (by show bst (UC c) H < _; omega) (by omega)
  have hs' := hs.spl (x := ⟨bst (UC c) H, 2, (k : Int), (i : Int), mns H [bst (UC c) H]⟩) hbr.1 hbr.2 hbu
  have e4 := unsp_set hsl hl hbr.1 hbr.2
  rw [hh] at e4
  have e7 := ev_punsp h (a := pg c (spl st ⟨bst (UC c) H, 2, (k : Int), (i : Int), mns H [bst (UC c) H]⟩) loc) hs'.l hu
  have e9 : unsp (pg c (spl st ⟨bst (UC c) H, 2, (k : Int), (i : Int), mns H [bst (UC c) H]⟩) loc).spilled H = mns H [bst (UC c) H] := e8 _ hbr.1 hbr.2
  rw [e9] at e7
  refine Ev.step (fun K k => rfl) (Ev.t (by simp; omega) (Ev.bindO e1 (Ev.bind (Ev.loop (ppr_l4 h hu e rfl)) (Ev.bind (ev_without (l := H) (by omega)) (Ev.bindO (x := pg c (spl st ⟨bst (UC c) H, 2, (k : Int), (i : Int), mns H [bst (UC c) H]⟩) loc) ?_ (Ev.bind e7 ?_))))))
  ·rw [h8, h19]; exact e3
  ·have := ih (spl st ⟨bst (UC c) H, 2, (k : Int), (i : Int), mns H [bst (UC c) H]⟩) hs' (by
    show n = (unsp (st.sp.set (bst (UC c) H).toNat true) _).length - 5
    rw [e4]; omega)
   have e6 : unsp (spl st ⟨bst (UC c) H, 2, (k : Int), (i : Int), mns H [bst (UC c) H]⟩).sp (lp (bk c k) (LO c k) i) = mns H [bst (UC c) H] := e4
   rw [e6] at this
   exact this
theorem ppr_l2 {c : VFunc} (h : Vd c) {k : Nat} (hk : k < c.Blocks.length) {loc : List Location} {s8 : Int × PS8} (h8 : s8.1 = (k : Int)) {st : AState} (hs : SI c st) : Ev (fun K m => regalloc_allocator_reducePressure_l2 K (UC c) s8 (bk c k) m (0, pt c st loc)) (pt c (ph2B c (UC c) st k) loc) ∧ SI c (ph2B c (UC c) st k) := by
 have hlen := h.len hk
 obtain ⟨s', ⟨rfl, hs'⟩, el⟩ := ev_foldi (List.range ((bk c k).Instrs.length + 1)) (fun K m i s => regalloc_allocator_reducePressure_l2 K (UC c) s8 (bk c k) m (i, s)) id (ph2P c (UC c) k) (fun n st s => s = pt c st loc ∧ SI c st)
  (fun a s hs => Ev.step (fun K k => rfl) (Ev.f (by simp; omega) (Ev.some _)))
  (fun j i st s hx hj hs => by
   obtain ⟨rfl, hj⟩ := rng_get hx
   obtain ⟨rfl, hs⟩ := hs
   have hl := RS.lp (h.iv hk) (h.e hk) (RS.LO h k) i
   have ek := PTs_idx hk
   rw [← h8] at ek
   refine ⟨pt c (ph2P c (UC c) k st i) loc, ⟨rfl, prs_si h hl hs (by omega)⟩, fun r hr => Ev.step (fun K k => rfl) (Ev.t (by simp; omega) (Ev.bindO ek (Ev.bindO (PT_idx (by omega)) (Ev.bind (ev_punsp h (a := pg c st loc) hs.l hl) (Ev.bind (Ev.loop (ppr_l3 h hk (by omega) h8 (s19 := ((i : Int), pt c st loc)) rfl _ st hs rfl)) ?_)))))⟩
   rw [w64_succ (i := i) (by omega)]
   exact hr) st (pt c st loc) ⟨rfl, hs⟩
 exact ⟨el, hs'⟩
theorem ev_preduce {c : VFunc} (h : Vd c) {st : AState} {loc : List Location} (hs : SI c st) : Ev (fun K _ => regalloc_allocator_reducePressure K (pg c st loc)) (pg c (ph2 c st) loc) := by
 have hb1 := h.h.b1
 obtain ⟨s', ⟨rfl, hs'⟩, el⟩ := ev_foldi (List.range c.Blocks.length) (fun K m i s => regalloc_allocator_reducePressure_l1 K (pg c st loc) (UC c) m (i, s)) id (ph2B c (UC c)) (fun n st s => s = pt c st loc ∧ SI c st)
  (fun a s hs => Ev.step (fun K k => rfl) (Ev.f (by simp [pg]) (Ev.some _)))
  (fun j i st s hx hj hs => by
   obtain ⟨rfl, hj⟩ := rng_get hx
   obtain ⟨rfl, hs⟩ := hs
   obtain ⟨e1, hs'⟩ := ppr_l2 h hj (loc := loc) (s8 := ((i : Int), pt c st loc)) rfl hs
   refine ⟨pt c (ph2B c (UC c) st i) loc, ⟨rfl, hs'⟩, fun r hr => Ev.step (fun K k => rfl) (Ev.t (by simp [pg]; omega) (Ev.bindO (bk_idx hj) (Ev.bind (Ev.loop e1) ?_)))⟩
   rw [w64_succ (i := i) (by omega)]
   exact hr) st (pt c st loc) ⟨rfl, hs⟩
 unfold regalloc_allocator_reducePressure
 exact Ev.bind (ev_puc h) (Ev.bind (Ev.loop el) (Ev.some _))
end Go.Proofs.YtocfnpnnbmicmaaDoor.Tc
end
section
set_option linter.unusedVariables false
set_option linter.unusedSimpArgs false
set_option maxRecDepth 20000
namespace Go.Proofs.YtocfnpnnbmicmaaDoor.Tc
open Go
theorem color_l2 (K j : Nat) : regalloc_allocator_color_l2 K (j + 6) (0, List.replicate 5 0) = some (List.replicate 5 (-1)) := by kernel_rfl
theorem ev_color_l2 : Ev (fun K k => regalloc_allocator_color_l2 K k (0, List.replicate 5 0)) (List.replicate 5 (-1)) := ⟨6, fun K k hK hk => by
 obtain ⟨j, rfl⟩ : ∃ j, k = j + 6 := ⟨k - 6, by omega⟩
 exact color_l2 K j⟩
theorem owns_nil (sp : List Bool) (loc : List Location) (r : Nat) : owns [] sp loc r = List.replicate 5 (-1) := rfl
theorem own_snoc {p : List Int} (hp : ∀ y, y ∈ p → 0 ≤ y) {sp : List Bool} {loc : List Location} {r : Nat} {m y : Int} : own (p ++ [y]) sp loc r m = if own p sp loc r m < 0 ∧ owP sp loc r m y = true then y else own p sp loc r m := by
 unfold own
 rw [List.find?_append]
 cases hf : p.find? (owP sp loc r m) with
 | some z =>
  have := hp z (List.mem_of_find?_eq_some hf)
  rw [if_neg (by simp; omega)]; rfl
 | none =>
  cases ho : owP sp loc r m y with
  | true => simp [List.find?_cons, ho]
  | false => simp [List.find?_cons, ho]
theorem owns_idx {l : List Int} {sp : List Bool} {loc : List Location} {r m : Nat} (h : m < 5) : idx (owns l sp loc r) (m : Int) = some (own l sp loc r m) := idx_eq (owns_get h)
theorem pco_l3 {c : VFunc} (h : Vd c) {r : Nat} (hr : r < c.Regs.toNat) {q : AState × List Location} (h3 : C3 c r q) : Ev (fun K k => regalloc_allocator_color_l3 K ((r : Int), pt c q.1 q.2) (IF c r) k (0, List.replicate 5 (-1))) (owns (IF c r) q.1.sp q.2 r) := by
 have g := gr_IF h
 have hlen := (g.s r).len h
 have hl := h3.l
 have hsl := h3.s.l
 obtain ⟨s', rfl, el⟩ := ev_foldi (IF c r) (fun K k i s => regalloc_allocator_color_l3 K ((r : Int), pt c q.1 q.2) (IF c r) k (i, s)) id (fun (_ : Unit) _ => ()) (fun j _ s => s = owns ((IF c r).take j) q.1.sp q.2 r)
  (fun a s hs => Ev.step (fun K k => rfl) (Ev.f (by simp) (Ev.some _)))
  (fun j y _ s hy hj hs => by
   subst hs
   have hyr := (g.s r).r y (List.mem_of_getElem? hy)
   have htake : (IF c r).take (j + 1) = (IF c r).take j ++ [y] := by rw [List.take_add_one, hy]; rfl
   have hpos : ∀ z, z ∈ (IF c r).take j → 0 ≤ z := fun z hz => ((g.s r).r z (List.mem_of_mem_take hz)).1
   have e1 := isSp_idx (sp := q.1.sp) hyr.1 (by omega)
   have e2 := locL_idx (loc := q.2) hyr.1 (by omega)
   refine ⟨owns ((IF c r).take (j + 1)) q.1.sp q.2 r, rfl, fun r' hr' => Ev.step (fun K k => rfl) (Ev.t (by simpa using hj) (Ev.bind (x := owns ((IF c r).take (j + 1)) q.1.sp q.2 r) (Ev.bindO (idx_eq hy) (Ev.bind (x := (decide (y < (r : Int)) && !(isSp q.1.sp y))) ?_ ?_)) ?_))⟩
   ·cases hc : decide (y < (r : Int)) with
    | true => exact Ev.t rfl (Ev.bindO e1 (Ev.some _))
    | false => exact Ev.f rfl (Ev.some _)
   ·cases hb : (decide (y < (r : Int)) && !(isSp q.1.sp y)) with
    | false =>
     refine Ev.bind (x := false) (Ev.f rfl (Ev.some _)) (Ev.f rfl ((Ev.some _).cast ?_))
     refine List.map_congr_left fun m hm => ?_
     rw [htake, own_snoc hpos, if_neg]
     rintro ⟨_, q2⟩
     unfold owP at q2
     rw [hb] at q2; cases q2
    | true =>
     have hb2 := hb
     simp only [Bool.and_eq_true, decide_eq_true_eq, Bool.not_eq_true'] at hb2
     obtain ⟨m, hm, em⟩ := h3.k y.toNat (by omega) (by rw [show ((y.toNat : Nat) : Int) = y by omega]; exact hb2.2)
     rw [show ((y.toNat : Nat) : Int) = y by omega] at em
     have ei : (locL q.2 y).Index = (m : Int) := by rw [em]
     have e3 := owns_idx (l := (IF c r).take j) (sp := q.1.sp) (loc := q.2) (r := r) hm
     rw [← ei] at e3
     have hg : (decide (0 ≤ (locL q.2 y).Index) && decide ((locL q.2 y).Index < 5)) = true := by rw [ei]; simp; omega
     refine Ev.bind (x := decide (own ((IF c r).take j) q.1.sp q.2 r (locL q.2 y).Index < 0)) (Ev.t rfl (Ev.bindO e2 (Ev.bindO e3 (Ev.guard hg (Ev.some _))))) (Ev.cnd (fun hc => Ev.bindO e2 (Ev.bindO e3 (Ev.guard hg ((Ev.some _).cast ?_)))) (fun hc => (Ev.some _).cast ?_))
     ·have hc := of_decide_eq_true hc
      rw [ei] at hc ⊢
      refine List.ext_getElem? fun i => ?_
      rcases Nat.lt_or_ge i 5 with q5 | q5
      ·rw [owns_get q5, htake, own_snoc hpos]
       by_cases e : i = m
       ·subst e
        rw [Int.toNat_natCast, List.getElem?_set_self (by rw [owns_len]; exact q5), if_pos ⟨hc, by unfold owP; rw [hb, ei]; simp⟩]
       ·rw [Int.toNat_natCast, List.getElem?_set_ne (Ne.symm e), owns_get q5, if_neg]
        rintro ⟨_, q2⟩
        unfold owP at q2
        rw [hb, ei] at q2
        simp at q2; omega
      ·rw [List.getElem?_eq_none (by rw [List.length_set, owns_len]; exact q5), List.getElem?_eq_none (by rw [owns_len]; exact q5)]
     ·have hc := of_decide_eq_false hc
      rw [ei] at hc
      refine List.map_congr_left fun i hi => ?_
      rw [htake, own_snoc hpos]
      by_cases e : i = m
      ·subst e; rw [if_neg (fun z => hc z.1)]
      ·rw [if_neg]
       rintro ⟨_, q2⟩
       unfold owP at q2
       rw [hb, ei] at q2
       simp at q2; omega
   ·simp only [w64_succ (i := j) (by omega)]; exact hr') () (List.replicate 5 (-1)) (by rw [List.take_zero, owns_nil])
 rw [List.take_length] at el
 exact el
theorem pco_l4 {l : List Int} {sp : List Bool} {loc : List Location} {r : Nat} : Ev (fun K k => regalloc_allocator_color_l4 K (owns l sp loc r) k 0) (((frM l sp loc r).getD 5 : Nat) : Int) := by
 have key : ∀ n m : Nat, m + n = 5 → (∀ j : Nat, j < m → 0 ≤ own l sp loc r j) → Ev (fun K k => regalloc_allocator_color_l4 K (owns l sp loc r) k (m : Int)) (((frM l sp loc r).getD 5 : Nat) : Int) := by
  intro n
  induction n with
  | zero =>
   intro m hm hj
   have : m = 5 := by omega
   subst this
   refine Ev.step (fun K k => rfl) (Ev.bind (x := false) (Ev.f rfl (Ev.some _)) (Ev.f rfl ((Ev.some _).cast ?_)))
   rw [frM_none hj]; rfl
  | succ n ih =>
   intro m hm hj
   have hg : (decide (0 ≤ (m : Int)) && decide ((m : Int) < 5)) = true := by simp; omega
   refine Ev.step (fun K k => rfl) (Ev.bind (x := decide (own l sp loc r m ≥ 0)) (Ev.t (by simp; omega) (Ev.bindO (owns_idx (by omega)) (Ev.guard hg (Ev.some _)))) (Ev.cnd (fun hc => ?_) (fun hc => (Ev.some _).cast ?_)))
   ·rw [w64_succ (i := m) (by omega)]
    refine ih (m + 1) (by omega) fun j hj2 => ?_
    by_cases q : j = m
    ·subst q; have := of_decide_eq_true hc; omega
    ·exact hj j (by omega)
   ·rw [frM_some (by omega) hj (by have := of_decide_eq_false hc; omega)]; rfl
 exact key 5 0 (by omega) (fun j hj => by omega)
theorem ev_color {c : VFunc} (h : Vd c) : Ev (fun K _ => regalloc_allocator_color K (pg c (ph2 c (ph1 c)) (loc0 c))) (pg c (fin3 c).1 (fin3 c).2) := by
 have hr1 := h.h.r1
 have hr0 := h.h.r0
 have hL : (pg c (ph2 c (ph1 c)) (loc0 c)).a.Locations.length = c.Regs.toNat := by simp [pg, loc0]
 obtain ⟨s', ⟨rfl, _⟩, el⟩ := ev_foldi (List.range c.Regs.toNat) (fun K k i s => regalloc_allocator_color_l1 K (pg c (ph2 c (ph1 c)) (loc0 c)) (IFs c) k (i, s)) id (col c) (fun r q s => s = pt c q.1 q.2 ∧ C3 c r q)
  (fun a s hs => Ev.step (fun K k => rfl) (Ev.f (by simp [hL]) (Ev.some _)))
  (fun j r q s hx hj hs => by
   obtain ⟨rfl, hj⟩ := rng_get hx
   obtain ⟨rfl, h3⟩ := hs
   have hl := h3.l
   have hsl := h3.s.l
   have hss := h3.s.len h
   have i1 := isSp_idx (sp := q.1.sp) (r := (r : Int)) (by omega) (by omega)
   have i3 := locL_idx (loc := q.2) (r := (r : Int)) (by omega) (by omega)
   refine ⟨pt c (col c q r).1 (col c q r).2, ⟨rfl, h3.step h hj⟩, fun r' hr' => Ev.step (fun K k => rfl) (Ev.t (by simp [hL]; omega) (Ev.bind (x := pt c (col c q r).1 (col c q r).2) (Ev.bindO i1 ?_) ?_))⟩
   ·unfold col
    cases hsp : isSp q.1.sp (r : Int) with
    | true => rw [if_pos rfl]; exact Ev.t rfl (Ev.some _)
    | false =>
     rw [if_neg (by simp)]
     have e4 := pco_l4 (l := IF c r) (sp := q.1.sp) (loc := q.2) (r := r)
     refine Ev.f rfl (Ev.bind (Ev.loop ev_color_l2) (Ev.bindO (idx_eq (IFs_get hj)) (Ev.bind (Ev.loop (pco_l3 h hj h3)) (Ev.bind (Ev.loop e4) ?_))))
     cases hf : frM (IF c r) q.1.sp q.2 r with
     | some m =>
      have hm : m < 5 := by
       unfold frM at hf
       exact List.mem_range.1 (List.mem_of_find?_eq_some hf)
      refine Ev.t (by show decide (((m : Nat) : Int) < 5) = true; simp; omega) (Ev.bindO i3 ((Ev.some _).cast ?_))
      show (_, _, _, _, _, _, q.2.set (r : Int).toNat _, _) = _
      rw [Int.toNat_natCast]; rfl
     | none =>
      have e5 := pspill_eq (c := c) (loc := q.2) (st := q.1) (x := ⟨(r : Int), 3, 0, 0, owns (IF c r) q.1.sp q.2 r⟩) (show (0 : Int) ≤ r by omega) (show (r : Int) < _ by omega) (by omega)
      exact Ev.f rfl (Ev.guard (by rw [owns_len]; rfl) (Ev.bindO (app_nil (by rw [owns_len]; omega) (by rw [owns_len]; omega)) (Ev.bindO e5 (Ev.some _))))
   ·rw [w64_succ (i := r) (by omega)]
    exact hr') (ph2 c (ph1 c), loc0 c) (pt c (ph2 c (ph1 c)) (loc0 c)) ⟨rfl, c3_start h⟩
 unfold regalloc_allocator_color
 exact Ev.bind (ev_pint h) (Ev.bind (Ev.loop el) (Ev.some _))
theorem pal_l1 {c : VFunc} (h : Vd c) : Ev (fun K k => regalloc_Allocate_l1 K (pg c (fin3 c).1 (fin3 c).2) k (0, c.Params, (fin3 c).2)) ((fin4 c).2, (fin4 c).1) := by
 have hr1 := h.h.r1
 have hr0 := h.h.r0
 have hp0 := h.h.p0
 have hp1 := h.h.p1
 have h3 := c3_fin h
 have hsl := h3.s.l
 have hL : (pg c (fin3 c).1 (fin3 c).2).a.Locations.length = c.Regs.toNat := h3.l
 obtain ⟨s', ⟨rfl, _⟩, el⟩ := ev_foldi (List.range c.Regs.toNat) (fun K k i s => regalloc_Allocate_l1 K (pg c (fin3 c).1 (fin3 c).2) k (i, s)) id (slo (fin3 c).1.sp) (fun r q s => s = (q.2, q.1) ∧ C4 c (fin3 c).1.sp (fin3 c).2 r q)
  (fun a s hs => Ev.step (fun K k => rfl) (Ev.f (by simp [hL]) (Ev.some _)))
  (fun j r q s hx hj hs' => by
   obtain ⟨rfl, hj⟩ := rng_get hx
   obtain ⟨rfl, h4⟩ := hs'
   have hnext := h4.step hj
   have hl := h4.l
   have hb := h4.b
   have i1 := isSp_idx (sp := (fin3 c).1.sp) (r := (r : Int)) (by omega) (by omega)
   have i3 := locL_idx (loc := q.1) (r := (r : Int)) (by omega) (by omega)
   have hw : w64 (q.2 + 1) = q.2 + 1 := w64_id (by omega) (by omega)
   refine ⟨((slo (fin3 c).1.sp q r).2, (slo (fin3 c).1.sp q r).1), ⟨rfl, hnext⟩, fun r' hr' => Ev.step (fun K k => rfl) (Ev.t (by simp [hL]; omega) (Ev.bind (x := ((slo (fin3 c).1.sp q r).2, (slo (fin3 c).1.sp q r).1)) (Ev.bindO i1 ?_) ?_))⟩
   ·unfold slo
    cases isSp (fin3 c).1.sp (r : Int) with
    | true => exact Ev.t rfl (Ev.bindO i3 ((Ev.some _).cast (by rw [hw, Int.toNat_natCast]; rfl)))
    | false => exact Ev.f rfl (Ev.some _)
   ·rw [w64_succ (i := r) (by omega)]
    exact hr') ((fin3 c).2, c.Params) (c.Params, (fin3 c).2) ⟨rfl, ⟨h3.l, fun y hy => rfl, fun y hy => by omega, fun y z hy => by omega, by show _ ≤ c.Params ∧ c.Params ≤ _; omega⟩⟩
 exact el
theorem ev_palloc {c : VFunc} (h : Vd c) : Ev (fun K _ => regalloc_Allocate K c) (AL c) := by
 have hb0 := h.h.b0
 have e00 := PT_idx (c := c) (k := 0) (i := 0) (Nat.zero_le _)
 rw [lp_zero, ← LI_eq h (by omega)] at e00
 unfold regalloc_Allocate
 refine Ev.bind (ev_vvalid h.sm) (Ev.f (by rw [h.v]; rfl) (Ev.bind (ev_points h) (Ev.bindO (mkR h (by omega) _) (Ev.bindO (PTs_idx (k := 0) (by omega)) (Ev.bindO e00 ?_)))))
 refine Ev.cnd (fun hc => (Ev.some _).cast ?_) (fun hc => ?_)
 ·unfold AL; rw [if_pos (by have := of_decide_eq_true hc; omega)]
 ·have hn : ¬ (LI c 0).length > 0 := by have := of_decide_eq_false hc; omega
  refine Ev.bindO (mkR h (by omega) _) (Ev.bind (ev_pspillCalls h (loc0 c)) (Ev.bind (ev_preduce h (ph1_ok h).1) (Ev.bind (ev_color h) (Ev.bind (Ev.loop (pal_l1 h)) ?_))))
  unfold AL
  rw [if_neg hn]
  refine Ev.cnd (fun hc => (Ev.some _).cast ?_) (fun hc => (Ev.some _).cast ?_)
  ·rw [if_pos (of_decide_eq_true hc)]
  ·rw [if_neg (of_decide_eq_false hc)]; rfl
end Go.Proofs.YtocfnpnnbmicmaaDoor.Tc
end
section
set_option linter.unusedVariables false
set_option linter.unusedSimpArgs false
namespace Go.Proofs.YtocfnpnnbmicmaaDoor.Tc
open Go
theorem al_slots {c : VFunc} (h : Vd c) : c.Params ≤ (fin4 c).2 ∧ (fin4 c).2 ≤ c.Params + c.Regs := (alc h).s
theorem al_ok {c : VFunc} (h : Vd c) (h0 : LI c 0 = []) (hs : c.Params + c.Regs ≤ 3000) : AL c = (ALa c, 0) := by
 have := al_slots h
 unfold AL
 rw [h0, if_neg (by simp), if_neg (by omega)]
theorem VF.al {p : Int} {c : VFunc} (h : VF p c) : AL c = (ALa c, 0) := al_ok h.vd h.li0 (by have := h.hp; have := h.hr; have := h.p2; omega)
end Go.Proofs.YtocfnpnnbmicmaaDoor.Tc
end
section
set_option linter.unusedVariables false
set_option linter.unusedSimpArgs false
namespace Go.Proofs.YtocfnpnnbmicmaaDoor.Tc
open Go
abbrev Memo := List (Int × List (List Int))
def MP (c : VFunc) (m : Memo) : Prop := ∀ k y, mget m k = some y → y = LPs c k.toNat
theorem mget_put {m : Memo} {k k' : Int} {y : List (List Int)} (h : mget m k = none) : mget (mput m k y) k' = if k' = k then some y else mget m k' := by
 have ha : m.any (fun p => p.1 == k) = false := by
  rw [Bool.eq_false_iff]
  intro q
  obtain ⟨p, hp, hk⟩ := List.any_eq_true.1 q
  unfold mget at h
  rw [Option.map_eq_none_iff, List.find?_eq_none] at h
  exact h p hp hk
 unfold mput
 rw [ha, if_neg (by simp)]
 unfold mget at h ⊢
 rw [List.find?_append]
 by_cases e : k' = k
 ·subst e
  rw [if_pos rfl]
  rw [Option.map_eq_none_iff] at h
  rw [h]; simp
 ·rw [if_neg e]
  have : (k == k') = false := by simpa using Ne.symm e
  cases m.find? (fun p => p.1 == k') <;> simp [List.find?_cons, this]
theorem MP.put {c : VFunc} {m : Memo} (h : MP c m) {k : Nat} (hk : mget m (k : Int) = none) : MP c (mput m (k : Int) (LPs c k)) := fun k' y hy => by
 rw [mget_put hk] at hy
 by_cases e : k' = (k : Int)
 ·subst e; rw [if_pos rfl] at hy; exact (Option.some.inj hy).symm
 ·rw [if_neg e] at hy; exact h k' y hy
structure HS (c : VFunc) (e : List Int) (sp : List Bool) : Prop where
 l : sp.length = c.Regs.toNat
 b : ∀ y : Int, 0 ≤ y → y < c.Regs → isSp sp y = e.contains y
theorem HS.next {c : VFunc} {e : List Int} {sp : List Bool} (h : HS c e sp) {r : Int} (h0 : 0 ≤ r) (h1 : r < c.Regs) : HS c (e ++ [r]) (sp.set r.toNat true) := ⟨by simp [h.l], fun y hy0 hy1 => by
 have hl := h.l
 rw [isSp_set h0 (by omega) hy0, h.b y hy0 hy1, Bool.eq_iff_iff]
 simp⟩
end Go.Proofs.YtocfnpnnbmicmaaDoor.Tc
end
section
set_option maxRecDepth 100000
namespace Go.Proofs.YtocfnpnnbmicmaaDoor.Tc
open Go
theorem exm11 (K : Nat) : law34_RegAllocExamples (K + 100) = some true := by kernel_rfl
theorem ev_ex11 : Ev (fun K _ => law34_RegAllocExamples K) true := ⟨100, fun K k hK hk => by
 obtain ⟨j, rfl⟩ : ∃ j, K = j + 100 := ⟨K - 100, by omega⟩
 exact exm11 j⟩
end Go.Proofs.YtocfnpnnbmicmaaDoor.Tc
end
section
set_option linter.unusedVariables false
set_option linter.unusedSimpArgs false
namespace Go.Proofs.YtocfnpnnbmicmaaDoor.Tc
open Go
theorem count_set {l : List Bool} {i : Nat} (h : i < l.length) : (l.set i true).count true + (if l[i] = true then 1 else 0) = l.count true + 1 := by
 induction l generalizing i with
 | nil => simp at h
 | cons x l ih =>
  cases i with
  | zero => cases x <;> simp
  | succ i =>
   have := ih (i := i) (by simpa using h)
   simp only [List.set_cons_succ, List.count_cons, List.getElem_cons_succ]
   omega
structure Rin (c : VFunc) (v : List Bool) : Prop where
 l : v.length = c.Blocks.length
 r : ∀ b : Nat, isSp v (b : Int) = true → Rch c b
structure Tin (m0 : Bool) (v0 : List Bool) (m1 : Bool) (v1 : List Bool) : Prop where
 c : v0.count true ≤ v1.count true
 m : m1 = true → m0 = true ∨ v0.count true < v1.count true
theorem Tin.rfl' (m : Bool) (v : List Bool) : Tin m v m v := ⟨Nat.le_refl _, fun h => .inl h⟩
theorem Tin.trans {m0 m1 m2 : Bool} {v0 v1 v2 : List Bool} (h : Tin m0 v0 m1 v1) (k : Tin m1 v1 m2 v2) : Tin m0 v0 m2 v2 := ⟨Nat.le_trans h.c k.c, fun q => by
 have h1 := h.c
 have k1 := k.c
 rcases k.m q with z | z
 ·rcases h.m z with y | y
  ·exact .inl y
  ·exact .inr (by omega)
 ·exact .inr (by omega)⟩
theorem rch_l3 {c : VFunc} (h : Vd c) {b : Nat} (hb : b < c.Blocks.length) {s20 : Bool × Int × (List Bool)} (h20 : s20.2.1 = (b : Int)) : ∀ (n j : Nat) (m : Bool) (v : List Bool), j + n = (su (bk c b)).length → Rin c v → ∃ m' v', Rin c v' ∧ Tin m v m' v' ∧ Ev (fun K k => law34_reachable_l3 K s20 (su (bk c b)) k (m, (j : Int), v)) (m', v') := by
 have hsu := su_len (bk c b)
 intro n
 induction n with
 | zero =>
  intro j m v hj hv
  exact ⟨m, v, hv, Tin.rfl' m v, Ev.step (fun K k => rfl) (Ev.bind (x := false) (Ev.f (by simp; omega) (Ev.some _)) (Ev.f rfl (Ev.some _)))⟩
 | succ n ih =>
  intro j m v hj hv
  have hlt : j < (su (bk c b)).length := by omega
  have hvl := hv.l
  have e1 : idx v s20.2.1 = some (isSp v (b : Int)) := by rw [h20]; exact isSp_idx (by omega) (by omega)
  cases hin : isSp v (b : Int) with
  | false =>
   rw [hin] at e1
   exact ⟨m, v, hv, Tin.rfl' m v, Ev.step (fun K k => rfl) (Ev.bind (x := false) (Ev.t (by simpa using hlt) (Ev.bindO e1 (Ev.some _))) (Ev.f rfl (Ev.some _)))⟩
  | true =>
   rw [hin] at e1
   have hmem := List.getElem_mem hlt
   have ht := (h.e hb).s _ hmem
   have hR := Rch.step (hv.r b hin) hb hmem
   have et := idx_get hlt
   generalize (su (bk c b))[j] = t at ht hR et
   obtain ⟨t, rfl⟩ : ∃ n : Nat, t = (n : Int) := ⟨t.toNat, by omega⟩
   have hR : Rch c t := hR
   have htl : t < v.length := by omega
   have e2 := isSp_idx (sp := v) (r := (t : Int)) (by omega) (by omega)
   have hcs := count_set htl
   have hget : isSp v (t : Int) = v[t] := by unfold isSp; rw [List.getD_eq_getElem?_getD, Int.toNat_natCast, List.getElem?_eq_getElem htl]; rfl
   have hv' : Rin c (v.set t true) := ⟨by simp [hvl], fun b' hb' => by
    by_cases e : b' = t
    ·rw [e]; exact hR
    ·refine hv.r b' ?_
     rw [isSp_setN htl (by omega), if_neg (by omega)] at hb'
     exact hb'⟩
   obtain ⟨m', v', g1, g2, g3⟩ := ih (j + 1) (m || !(isSp v (t : Int))) (v.set t true) (by omega) hv'
   have hT : Tin m v (m || !(isSp v (t : Int))) (v.set t true) := ⟨by split at hcs <;> omega, fun q => by
    cases m with
    | true => exact .inl rfl
    | false =>
     have q : isSp v (t : Int) = false := by simpa using q
     rw [hget] at q
     rw [if_neg (by rw [q]; simp)] at hcs
     exact .inr (by omega)⟩
   refine ⟨m', v', g1, hT.trans g2, Ev.step (fun K k => rfl) (Ev.bind (x := true) (Ev.t (by simpa using hlt) (Ev.bindO e1 (Ev.some _))) (Ev.t rfl (Ev.bind (x := (m || !(isSp v (t : Int)))) ?_ (Ev.bindO et (Ev.bindO e2 ?_)))))⟩
   ·cases m with
    | true => exact Ev.t rfl (Ev.some _)
    | false => exact Ev.f rfl (Ev.bindO et (Ev.bindO e2 (Ev.some _)))
   ·simp only [w64_succ (i := j) (by omega), Int.toNat_natCast]; exact g3
theorem rch_l2 {c : VFunc} (h : Vd c) : ∀ (n b : Nat) (m : Bool) (v : List Bool), b + n = c.Blocks.length → Rin c v → ∃ m' v', Rin c v' ∧ Tin m v m' v' ∧ Ev (fun K k => law34_reachable_l2 K c k (m, (b : Int), v)) (m', v') := by
 have hb1 := h.h.b1
 intro n
 induction n with
 | zero =>
  intro b m v hb hv
  exact ⟨m, v, hv, Tin.rfl' m v, Ev.step (fun K k => rfl) (Ev.f (by simp; omega) (Ev.some _))⟩
 | succ n ih =>
  intro b m v hb hv
  have hlt : b < c.Blocks.length := by omega
  obtain ⟨m1, v1, g1, g2, g3⟩ := rch_l3 h hlt (s20 := (m, (b : Int), v)) rfl (su (bk c b)).length 0 m v (by omega) hv
  obtain ⟨m2, v2, k1, k2, k3⟩ := ih (b + 1) m1 v1 (by omega) g1
  refine ⟨m2, v2, k1, g2.trans k2, Ev.step (fun K k => rfl) (Ev.t (by simpa using hlt) (Ev.bindO (bk_idx hlt) (Ev.bind (ev_rsucc _) (Ev.bind (Ev.loop g3) ?_))))⟩
  simp only [w64_succ (i := b) (by omega)]; exact k3
theorem rch_l1 {c : VFunc} (h : Vd c) : ∀ (B : Nat) (m : Bool) (v : List Bool), c.Blocks.length + 1 ≤ v.count true + B → Rin c v → ∃ v', Rin c v' ∧ Ev (fun K k => law34_reachable_l1 K c k (m, v)) v' := by
 intro B
 induction B with
 | zero =>
  intro m v hB hv
  have := List.count_le_length (a := true) (l := v)
  have := hv.l
  omega
 | succ B ih =>
  intro m v hB hv
  cases m with
  | false => exact ⟨v, hv, Ev.step (fun K k => rfl) (Ev.f rfl (Ev.some _))⟩
  | true =>
   obtain ⟨m1, v1, g1, g2, g3⟩ := rch_l2 h c.Blocks.length 0 false v (by omega) hv
   cases hm : m1 with
   | false =>
    rw [hm] at g3
    exact ⟨v1, g1, Ev.step (fun K k => rfl) (Ev.t rfl (Ev.bind (Ev.loop g3) (Ev.step (fun K k => rfl) (Ev.f rfl (Ev.some _)))))⟩
   | true =>
    rw [hm] at g2 g3
    have hlt : v.count true < v1.count true := by
     rcases g2.m rfl with q | q
     ·cases q
     ·exact q
    obtain ⟨v', k1, k2⟩ := ih true v1 (by omega) g1
    exact ⟨v', k1, Ev.step (fun K k => rfl) (Ev.t rfl (Ev.bind (Ev.loop g3) k2))⟩
theorem ev_reach {c : VFunc} (h : Vd c) : ∃ v, Rin c v ∧ Ev (fun K _ => law34_reachable K c) v := by
 have hb0 := h.h.b0
 have hb1 := h.h.b1
 have hv : Rin c ((List.replicate c.Blocks.length false).set (0 : Int).toNat true) := ⟨by simp, fun b hb => by
  by_cases e : b = 0
  ·subst e; exact .zero
  ·rw [show (0 : Int).toNat = 0 from rfl, isSp_setN (by simp; omega) (by omega), if_neg (by omega)] at hb
   unfold isSp at hb
   rw [List.getD_eq_getElem?_getD, List.getElem?_replicate] at hb
   split at hb <;> simp at hb⟩
 obtain ⟨v, g1, g2⟩ := rch_l1 h (c.Blocks.length + 1) true _ (by omega) hv
 refine ⟨v, g1, ?_⟩
 unfold law34_reachable
 refine Ev.bindO (mk_eq (by omega) (by omega)) (Ev.bindO (idx_get (i := 0) (by simp; omega)) (Ev.bind (Ev.loop g2) (Ev.some _)))
theorem dj_l2 {c : VFunc} (h : Vd c) {b : Nat} (hb : b < c.Blocks.length) : Ev (fun K k => law34_RegAllocDisjoint_l2 K c (b : Int) k 0) (if (bk c b).Instrs.all (fun v => v.Instr.Op != 10) then .inl () else .inr (.inr true)) := by
 have hlen := h.len hb
 exact ev_all (bk c b).Instrs (fun K k i => law34_RegAllocDisjoint_l2 K c (b : Int) k i) (fun v => v.Instr.Op != 10) (.inr true) (Ev.step (fun K k => rfl) (Ev.bindO (bk_idx hb) (Ev.f (by simp) (Ev.inn ()))))
  (fun i x hx hi => by
   refine ⟨fun ht r hr => Ev.step (fun K k => rfl) (Ev.bindO (bk_idx hb) (Ev.t (by simpa using hi) (Ev.bindO (bk_idx hb) (Ev.bindO (idx_eq hx) (Ev.f (by simpa using ht) ?_))))), fun ht => Ev.step (fun K k => rfl) (Ev.bindO (bk_idx hb) (Ev.t (by simpa using hi) (Ev.bindO (bk_idx hb) (Ev.bindO (idx_eq hx) (Ev.t (by simpa using ht) (Ev.bind ev_ex11 (Ev.out (Ev.out (Ev.some true)))))))))⟩
   rw [w64_succ (i := i) (by omega)]; exact hr)
theorem dj_l1 {c : VFunc} (h : Vd c) : Ev (fun K k => law34_RegAllocDisjoint_l1 K c k 0) (if c.Blocks.all (fun b => b.Instrs.all (fun v => v.Instr.Op != 10)) then .inl () else .inr true) := by
 have hb1 := h.h.b1
 exact ev_all c.Blocks (fun K k i => law34_RegAllocDisjoint_l1 K c k i) (fun b => b.Instrs.all (fun v => v.Instr.Op != 10)) true (Ev.step (fun K k => rfl) (Ev.f (by simp) (Ev.inn ())))
  (fun i x hx hi => by
   have : x = bk c i := by have := bk_get hi; rw [hx] at this; exact Option.some.inj this
   subst this
   have e := dj_l2 h hi
   refine ⟨fun ht r hr => Ev.step (fun K k => rfl) (Ev.t (by simpa using hi) ?_), fun ht => Ev.step (fun K k => rfl) (Ev.t (by simpa using hi) ?_)⟩
   ·rw [ht] at e
    refine Ev.sql (Ev.loop e) ?_
    rw [w64_succ (i := i) (by omega)]; exact hr
   ·rw [ht] at e
    exact Ev.sqr (Ev.loop e))
theorem dj_rest {c : VFunc} (h : Vd c) (h0 : LI c 0 = []) (hm : ∀ k, k < c.Blocks.length → ∀ v, v ∈ (bk c k).Instrs → v.Instr.Op ≠ 10) {v : List Bool} (hv : Rin c v) : Ev (fun K k => law34_RegAllocDisjoint_l3 K c (ALa c, 0) v k 0) (.inl ()) := by
 have hb1 := h.h.b1
 have ha := alc h
 have hal := ha.l
 have hr0 := h.h.r0
 refine upto (P := fun b => Ev (fun K k => law34_RegAllocDisjoint_l3 K c (ALa c, 0) v k (b : Int)) (.inl ())) (n := c.Blocks.length) (Ev.step (fun K k => rfl) (Ev.f (by simp) (Ev.inn ()))) fun b hb ih => ?_
 have hlen := h.len hb
 have hL : (LPs c b).length = (bk c b).Instrs.length + 1 := by simp [LPs, lps]
 have hvl := hv.l
 have ev := isSp_idx (sp := v) (r := (b : Int)) (by omega) (by omega)
 refine Ev.step (fun K k => rfl) (Ev.t (by simpa using hb) (Ev.bind (ev_rpoints h hb) (Ev.sql (s := ()) (Ev.loop ?_) ?_)))
 ·cases hin : isSp v (b : Int) with
  | false =>
   rw [hin] at ev
   refine Ev.step (fun K k => rfl) (Ev.bind (x := false) ?_ (Ev.f rfl (Ev.inn ())))
   exact Ev.t (by simp; omega) (Ev.bindO ev (Ev.some _))
  | true =>
   rw [hin] at ev
   have hrch := hv.r b hin
   refine upto (P := fun p => Ev (fun K k => law34_RegAllocDisjoint_l4 K (ALa c, 0) v (b : Int) (LPs c b) k (p : Int)) (.inl ())) (n := (LPs c b).length) (Ev.step (fun K k => rfl) (Ev.bind (x := false) (Ev.f (by simp) (Ev.some _)) (Ev.f rfl (Ev.inn ())))) fun p hp ih4 => ?_
   have hpl : p ≤ (bk c b).Instrs.length := by omega
   have hx : idx (LPs c b) (p : Int) = some (lp (bk c b) (LO c b) p) := idx_eq (by unfold LPs lps; rw [List.getElem?_map, List.getElem?_range (by omega)]; rfl)
   have hrs := RS.lp (h.iv hb) (h.e hb) (RS.LO h b) p
   have hrl := hrs.len h
   refine Ev.step (fun K k => rfl) (Ev.bind (x := true) (Ev.t (by simpa using hp) (Ev.bindO ev (Ev.some _))) (Ev.t rfl (Ev.sql (s := ()) (Ev.loop ?_) ?_)))
   ·refine upto (P := fun i => Ev (fun K k => law34_RegAllocDisjoint_l5 K (ALa c, 0) (LPs c b) (p : Int) k (i : Int)) (.inl ())) (n := (lp (bk c b) (LO c b) p).length) (Ev.step (fun K k => rfl) (Ev.bindO hx (Ev.f (by simp) (Ev.inn ())))) fun i hi ih5 => ?_
    refine Ev.step (fun K k => rfl) (Ev.bindO hx (Ev.t (by simpa using hi) (Ev.sql (s := ()) (Ev.loop ?_) ?_)))
    ·refine upto (P := fun j => Ev (fun K k => law34_RegAllocDisjoint_l6 K (ALa c, 0) (LPs c b) (p : Int) (i : Int) k (j : Int)) (.inl ())) (n := i) (Ev.step (fun K k => rfl) (Ev.f (by simp) (Ev.inn ()))) fun j hj ih6 => ?_
     have hjl : j < (lp (bk c b) (LO c b) p).length := by omega
     have hxi := List.getElem_mem hi
     have hxj := List.getElem_mem hjl
     have hlt := (List.pairwise_iff_getElem.1 hrs.s) j i hjl hi hj
     have ri := hrs.r _ hxi
     have rj := hrs.r _ hxj
     have ei := locA_idx (a := ALa c) ri.1 (by omega)
     have ej := locA_idx (a := ALa c) rj.1 (by omega)
     have hIF := together h h0 hm hrch hb hpl hxj hxi (by omega)
     have hd := ha.d (lp (bk c b) (LO c b) p)[i].toNat _ (by omega) hIF
     rw [show (((lp (bk c b) (LO c b) p)[i].toNat : Nat) : Int) = (lp (bk c b) (LO c b) p)[i] by omega] at hd
     refine Ev.step (fun K k => rfl) (Ev.t (by simp; omega) (Ev.bindO hx (Ev.bindO (idx_get hi) (Ev.bindO ei (Ev.bindO hx (Ev.bindO (idx_get hjl) (Ev.bindO ej (Ev.f hd ?_))))))))
     rw [w64_succ (i := j) (by omega)]; exact ih6
    ·rw [w64_succ (i := i) (by omega)]; exact ih5
   ·rw [w64_succ (i := p) (by omega)]; exact ih4
 ·rw [w64_succ (i := b) (by omega)]; exact ih
theorem pure15 (l : List Int) (a1 : Int) (_ : lenOk 8 l ∧ ∀ x, x ∈ l → I64 x) (_ : I64 a1) : ∃ K, law34_RegAllocDisjoint K l a1 = some true := by
 refine Ev.fst ?_
 unfold law34_RegAllocDisjoint
 refine ev_head fun p c hc => ?_
 have h := hc.vd
 have hr0 := h.h.r0
 have e1 := dj_l1 h
 cases hall : c.Blocks.all (fun b => b.Instrs.all (fun v => v.Instr.Op != 10)) with
 | false => rw [hall] at e1; exact Ev.sqr (Ev.loop e1)
 | true =>
  rw [hall] at e1
  have hm : ∀ k, k < c.Blocks.length → ∀ v, v ∈ (bk c k).Instrs → v.Instr.Op ≠ 10 := fun k hk v hv => by
   have := List.all_eq_true.1 (List.all_eq_true.1 hall _ (bk_mem hk)) v hv
   simpa using this
  obtain ⟨v, hv, e2⟩ := ev_reach h
  have e3 := ev_palloc h
  rw [hc.al] at e3
  have hl := (alc h).l
  refine Ev.sql (Ev.loop e1) (Ev.bind e3 (Ev.f ?_ (Ev.bind e2 (Ev.sql (Ev.loop (dj_rest h hc.li0 hm hv)) (Ev.bind ev_ex11 (Ev.some _))))))
  show (((0 : Int) != 0) || (((ALa c).Locations.length : Int) != c.Regs)) = false
  rw [hl]; simp; omega
end Go.Proofs.YtocfnpnnbmicmaaDoor.Tc
end
