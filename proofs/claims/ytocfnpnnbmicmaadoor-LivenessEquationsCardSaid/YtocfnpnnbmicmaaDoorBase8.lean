/- The typing calculus: a region whose order is open. Of the first m operations most own nothing and their types are known before the region begins; the others (the chain) come one behind the other as the edges let them; the rest of the region follows in its order. -/
import Derived.Test.YtocfnpnnbmicmaaDoorBase7
import Derived.StillTail
set_option linter.unusedVariables false
set_option linter.unusedSimpArgs false
namespace Go.Proofs.YtocfnpnnbmicmaaDoor.Tc
open Go Go.RowKit

theorem wpAny_more {P : Program} {md : Region.Mode} {ops : Array Oper} {Q : Post} : ∀ (f : Nat) (listed : Array Bool) (a : Act) (w : World), wpAny P md ops Q f listed a w → wpAny P md ops Q (f + 1) listed a w
  | 0, listed, a, w, h => ⟨fun _ => h.2, fun i hi => by rw [h.1] at hi; cases hi⟩
  | f + 1, listed, a, w, h => ⟨h.1, fun i hi => wpOp_mono (fun a' w' h' => wpAny_more f _ a' w' h') (h.2 i hi)⟩
theorem wpAny_le {P : Program} {md : Region.Mode} {ops : Array Oper} {Q : Post} {f g : Nat} (hfg : f ≤ g) {listed : Array Bool} {a : Act} {w : World} (h : wpAny P md ops Q f listed a w) : wpAny P md ops Q g listed a w := by
  obtain ⟨d, rfl⟩ := Nat.exists_eq_add_of_le hfg
  induction d with
  | zero => exact h
  | succ d ih => exact wpAny_more _ _ _ _ (ih (by omega))

def cnt : Nat → Array Bool → Nat
  | 0, _ => 0
  | m + 1, l => cnt m l + (if l.getD m true then 0 else 1)
theorem cnt_other (l : Array Bool) (i : Nat) : ∀ (m : Nat), m ≤ i → cnt m (l.setIfInBounds i true) = cnt m l
  | 0, _ => rfl
  | m + 1, h => by simp only [cnt]; rw [cnt_other l i m (by omega), getD_set_ne true (by omega)]
theorem cnt_set (l : Array Bool) (i : Nat) (hi : l.getD i true = false) : ∀ (m : Nat), i < m → cnt m (l.setIfInBounds i true) + 1 = cnt m l
  | 0, h => by omega
  | m + 1, h => by
    simp only [cnt]
    by_cases him : i = m
    · subst him
      have hlt : i < l.size := by
        rcases Nat.lt_or_ge i l.size with h' | h'
        · exact h'
        · simp [Array.getElem?_eq_none h'] at hi
      rw [cnt_other l i i (Nat.le_refl _), hi]
      simp [hlt]
    · rw [← cnt_set l i hi m (by omega), getD_set_ne true him]; omega
theorem cnt_zero (l : Array Bool) : ∀ (m : Nat), cnt m l = 0 → ∀ i, i < m → l.getD i true = true
  | 0, _, i, h => by omega
  | m + 1, h, i, hi => by
    simp only [cnt] at h
    by_cases him : i = m
    · subst him
      cases hl : l.getD i true with
      | true => rfl
      | false => rw [hl] at h; simp at h
    · exact cnt_zero l m (by omega) i (by omega)

/-- What is known of the operations that this one waits for. -/
abbrev Hs := List (Option (Nat × Ty))
def ctxOf (hs : Hs) (Γ : Cx) : List Edge → Cx
  | [] => Γ
  | e :: r => match Region.binds .any e, hs[e.on]? with
    | true, some (some p) => p :: ctxOf hs Γ r
    | _, _ => ctxOf hs Γ r
def zipH (Γ : Cx) : Hs → Cx
  | [] => Γ
  | some p :: r => p :: zipH Γ r
  | none :: r => zipH Γ r

structure DrawOp (κ : Kx) (l : List Oper) (hs : Hs) (Γ : Cx) (L : List Item) (o : Oper) (T : Ty) : Prop where
  ok : (o.guard = none ∧ Does κ o (ctxOf hs Γ o.after.toList) L T) ∨
    ∃ j want dj b, o.guard = some (j, want) ∧ (l[j]?).bind (·.dst) = some dj ∧ (ctxOf hs Γ o.after.toList).look dj = some (Ty.val b) ∧ ((b = .bool want ∧ Does κ o (ctxOf hs Γ o.after.toList) L T) ∨ ((b = .bool (!want) ∨ b = undef) ∧ T = Ty.val undef))
/-- The operations that each one waits for, as bits. -/
def ancs : List Oper → List Nat → List Nat
  | [], acc => acc
  | o :: r, acc => ancs r (acc ++ [o.after.toList.foldl (fun s e => if Region.binds .any e then s ||| 2 ^ e.on ||| (acc[e.on]?).getD 0 else s) 0])
/-- What stays while the chain runs: late, throughout; early, as long as none of qs has run. -/
structure Two where
  late : List Item
  early : List Item
  qs : List Nat
def Stays (Z : Two) (rem : List Nat) (L : List Item) : Prop := (∀ it, it ∈ Z.late → it ∈ L) ∧ ((Z.qs.all (fun q => rem.contains q)) = false ∨ ∀ it, it ∈ Z.early → it ∈ L)
/-- All of qs wait for operation i. -/
def isEarly (l : List Oper) (Z : Two) (i : Nat) : Bool := Z.qs.all fun q => (((ancs l [])[q]?).getD 0).testBit i
def DrawOps (κ : Kx) (l : List Oper) (hs : Hs) (Γ : Cx) (Z : Two) : Nat → List Oper → Hs → Prop
  | k, o :: os, some p :: r => (DrawOp κ l hs Γ Z.late o p.2 ∨ (isEarly l Z k = true ∧ DrawOp κ l hs Γ Z.early o p.2)) ∧ DrawOps κ l hs Γ Z (k + 1) os r
  | k, _ :: os, none :: r => DrawOps κ l hs Γ Z (k + 1) os r
  | _, _, _ => True

def nxt (as : List Nat) (rem : List Nat) : List Nat := rem.filter fun p => rem.all fun q => q == p || !((as[p]?).getD 0).testBit q
def AllP {α : Type} (P : α → Prop) : List α → Prop
  | [] => True
  | x :: r => P x ∧ AllP P r
theorem AllP.at {α : Type} {P : α → Prop} : ∀ {l : List α}, AllP P l → ∀ x, x ∈ l → P x
  | _ :: _, h, x, hx => by
    rcases List.mem_cons.1 hx with rfl | q
    · exact h.1
    · exact AllP.at h.2 x q
def putD (dst : Option Nat) (T : Ty) (Γ : Cx) : Cx := match dst with | some d => (d, T) :: Γ | none => Γ

section
variable {κ : Kx} {Q : Post} {Γ : Cx} {L : List Item} {l : List Oper} {hs : Hs}

/-- The operation runs: nothing guards it, or its guard is known to be met. -/
def GOk (l : List Oper) (Γ : Cx) (o : Oper) : Prop := o.guard = none ∨ ∃ j want dj, o.guard = some (j, want) ∧ (l[j]?).bind (·.dst) = some dj ∧ Γ.look dj = some (tB want)
/-- What the chain owes: from what is told (Γc) and owned (L) the next operations, whichever comes, and behind the last one the rest of the region. -/
def Chain (κ : Kx) (l : List Oper) (hs : Hs) (Γ : Cx) (Ls : Two) (F : Cx → List Item → Prop) : Nat → List Nat → Cx → List Item → Prop
  | 0, _, Γc, L => F Γc L
  | f + 1, rem, Γc, L => ∃ ns, nxt (ancs l []) rem = ns ∧ AllP (fun p => ∃ o, l[p]? = some o ∧ GOk l (ctxOf hs (Γc ++ Γ) o.after.toList) o ∧
      DoesO κ o (ctxOf hs (Γc ++ Γ) o.after.toList) L (fun T L' => Stays Ls (rem.erase p) L' ∧ Chain κ l hs Γ Ls F f (rem.erase p) (putD o.dst T Γc) L')) ns

theorem draw_plain {o : Oper} {T : Ty} (hg : o.guard = none) (h : Does κ o (ctxOf hs Γ o.after.toList) L T) : DrawOp κ l hs Γ L o T := ⟨.inl ⟨hg, h⟩⟩
theorem draw_on {o : Oper} {T : Ty} {j : Nat} {want : Bool} (dj : Nat) (b : Bool) (hg : o.guard = some (j, want)) (hj : (l[j]?).bind (·.dst) = some dj) (hl : (ctxOf hs Γ o.after.toList).look dj = some (tB b)) (hw : b = want)
    (h : Does κ o (ctxOf hs Γ o.after.toList) L T) : DrawOp κ l hs Γ L o T := ⟨.inr ⟨j, want, dj, _, hg, hj, hl, .inl ⟨by rw [hw], h⟩⟩⟩
theorem draw_off {o : Oper} {j : Nat} {want : Bool} (dj : Nat) (b : Bool) (hg : o.guard = some (j, want)) (hj : (l[j]?).bind (·.dst) = some dj) (hl : (ctxOf hs Γ o.after.toList).look dj = some (tB b)) (hw : b = !want) :
    DrawOp κ l hs Γ L o (Ty.val undef) := ⟨.inr ⟨j, want, dj, _, hg, hj, hl, .inr ⟨.inl (by rw [hw]), rfl⟩⟩⟩
theorem draw_offU {o : Oper} {j : Nat} {want : Bool} (dj : Nat) (hg : o.guard = some (j, want)) (hj : (l[j]?).bind (·.dst) = some dj) (hl : (ctxOf hs Γ o.after.toList).look dj = some (Ty.val undef)) :
    DrawOp κ l hs Γ L o (Ty.val undef) := ⟨.inr ⟨j, want, dj, _, hg, hj, hl, .inr ⟨.inr rfl, rfl⟩⟩⟩
theorem DrawOps.at {Z : Two} : ∀ {b : Nat} {os : List Oper} {us : Hs}, DrawOps κ l hs Γ Z b os us → ∀ (k : Nat) {o : Oper} {p : Nat × Ty}, os[k]? = some o → us[k]? = some (some p) → DrawOp κ l hs Γ Z.late o p.2 ∨ (isEarly l Z (b + k) = true ∧ DrawOp κ l hs Γ Z.early o p.2)
  | _, [], _, _, k, o, p, ho, _ => by simp at ho
  | _, _ :: _, [], _, k, o, p, _, hp => by simp at hp
  | b, x :: os, some u :: us, h, 0, o, p, ho, hp => by simp at ho hp; subst ho hp; exact h.1
  | b, x :: os, some u :: us, h, k + 1, o, p, ho, hp => by rw [show b + (k + 1) = b + 1 + k by omega]; exact DrawOps.at h.2 k (by simpa using ho) (by simpa using hp)
  | b, x :: os, none :: us, h, 0, o, p, ho, hp => by simp at hp
  | b, x :: os, none :: us, h, k + 1, o, p, ho, hp => by rw [show b + (k + 1) = b + 1 + k by omega]; exact DrawOps.at (us := us) (os := os) h k (by simpa using ho) (by simpa using hp)
theorem zip_look : ∀ {us : Hs} {t : Nat} {T : Ty}, (zipH Γ us).look t = some T → (∃ k : Nat, us[k]? = some (some (t, T))) ∨ Γ.look t = some T
  | [], _, _, h => .inr h
  | some (d, U) :: us, t, T, h => by
    simp only [zipH, Cx.look] at h
    split at h
    · rename_i hk; cases h; subst hk; exact .inl ⟨0, rfl⟩
    · rcases zip_look h with ⟨k, h1⟩ | h
      · exact .inl ⟨k + 1, by simpa using h1⟩
      · exact .inr h
  | none :: us, t, T, h => by
    rcases zip_look (us := us) h with ⟨k, h1⟩ | h
    · exact .inl ⟨k + 1, by simpa using h1⟩
    · exact .inr h
theorem ctx_look : ∀ {es : List Edge} {t : Nat} {T : Ty}, (ctxOf hs Γ es).look t = some T → (∃ e, e ∈ es ∧ Region.binds .any e = true ∧ hs[e.on]? = some (some (t, T))) ∨ Γ.look t = some T
  | [], _, _, h => .inr h
  | e :: r, t, T, h => by
    simp only [ctxOf] at h
    split at h
    · rename_i p hb h1
      obtain ⟨d, U⟩ := p
      simp only [Cx.look] at h
      split at h
      · rename_i hk; cases h; subst hk; exact .inl ⟨e, by simp, hb, h1⟩
      · rcases ctx_look h with ⟨e', h3, h4⟩ | h
        · exact .inl ⟨e', by simp [h3], h4⟩
        · exact .inr h
    · rcases ctx_look h with ⟨e', h3, h4⟩ | h
      · exact .inl ⟨e', by simp [h3], h4⟩
      · exact .inr h
theorem app_look : ∀ {Γc Γ : Cx} {t : Nat} {T : Ty}, (Γc ++ Γ).look t = some T → Γc.look t = some T ∨ Γ.look t = some T
  | [], _, _, _, h => .inr h
  | (k, U) :: r, Γ, t, T, h => by
    simp only [List.cons_append, Cx.look] at h ⊢
    split at h
    · rename_i hk; rw [if_pos hk]; exact .inl h
    · rename_i hk; rw [if_neg hk]; exact app_look h
theorem look_mem : ∀ {Γ : Cx} {t : Nat} {T : Ty}, Γ.look t = some T → ∃ p, p ∈ Γ ∧ p.1 = t
  | (k, U) :: r, t, T, h => by
    simp only [Cx.look] at h
    split at h
    · rename_i hk; exact ⟨(k, U), by simp, hk⟩
    · obtain ⟨q, h1, h2⟩ := look_mem h
      exact ⟨q, by simp [h1], h2⟩

def Closed (l : List Oper) (listed : Array Bool) : Prop := ∀ j oj, l[j]? = some oj → listed.getD j false = true → ∀ e ∈ oj.after, Region.binds .any e = true → listed.getD e.on false = true
theorem anc_fold (acc : List Nat) (q : Nat) : ∀ (es : List Edge) (s : Nat), (es.foldl (fun s e => if Region.binds .any e then s ||| 2 ^ e.on ||| (acc[e.on]?).getD 0 else s) s).testBit q = true →
    s.testBit q = true ∨ ∃ e, e ∈ es ∧ Region.binds .any e = true ∧ (e.on = q ∨ ((acc[e.on]?).getD 0).testBit q = true)
  | [], s, h => .inl h
  | e :: es, s, h => by
    simp only [List.foldl_cons] at h
    rcases anc_fold acc q es _ h with h | ⟨e', h1, h2⟩
    · split at h
      · rename_i hb
        simp only [Nat.testBit_or, Bool.or_eq_true, Nat.testBit_two_pow, decide_eq_true_eq] at h
        rcases h with (h | h) | h
        · exact .inl h
        · exact .inr ⟨e, by simp, hb, .inl h⟩
        · exact .inr ⟨e, by simp, hb, .inr h⟩
      · exact .inl h
    · exact .inr ⟨e', by simp [h1], h2⟩
theorem anc_ok {listed : Array Bool} (hc : Closed l listed) : ∀ (r : List Oper) (acc : List Nat), (∀ (k : Nat) (o : Oper), r[k]? = some o → l[acc.length + k]? = some o) →
    (∀ (k m : Nat), acc[k]? = some m → ∀ q, m.testBit q = true → ∀ (o : Oper), l[k]? = some o → (∀ e ∈ o.after, Region.binds .any e = true → listed.getD e.on false = true) → listed.getD q false = true) →
    ∀ (k m : Nat), (ancs r acc)[k]? = some m → ∀ q, m.testBit q = true → ∀ (o : Oper), l[k]? = some o → (∀ e ∈ o.after, Region.binds .any e = true → listed.getD e.on false = true) → listed.getD q false = true
  | [], acc, _, h => h
  | x :: r, acc, hl, h => by
    refine anc_ok hc r _ (fun k o hk => by have := hl (k + 1) o (by simpa using hk); simpa [Nat.add_assoc, Nat.add_comm 1 k] using this) ?_
    intro k m hm q hq o ho hpre
    rw [List.getElem?_append] at hm
    split at hm
    · exact h k m hm q hq o ho hpre
    · rename_i hk
      have hk0 : k = acc.length := by
        have := (List.getElem?_eq_some_iff.1 hm).1
        simp at this; omega
      subst hk0
      simp only [Nat.sub_self, List.getElem?_cons_zero, Option.some.injEq] at hm
      subst hm
      have hox : o = x := by have := hl 0 x rfl; simp only [Nat.add_zero] at this; rw [this] at ho; exact (Option.some.inj ho).symm
      subst hox
      rcases anc_fold acc q _ _ hq with h0 | ⟨e, h1, h2, h3⟩
      · simp at h0
      · have hle := hpre e (by simpa using h1) h2
        rcases h3 with h3 | h3
        · rw [← h3]; exact hle
        · cases ha : acc[e.on]? with
          | none => rw [ha] at h3; simp at h3
          | some m' =>
            rw [ha] at h3
            have hlt : e.on < acc.length := (List.getElem?_eq_some_iff.1 ha).1
            have hlo : ∃ oe, l[e.on]? = some oe := by
              have h4 : acc.length < l.length := (List.getElem?_eq_some_iff.1 ho).1
              exact ⟨_, List.getElem?_eq_getElem (by omega)⟩
            obtain ⟨oe, hoe⟩ := hlo
            exact h e.on m' ha q h3 oe hoe (fun e' he' hb' => hc e.on oe hoe hle e' he' hb')

/-- The state within the region. -/
structure DSat (κ : Kx) (l : List Oper) (m : Nat) (hs : Hs) (Γ : Cx) (Ls : Two) (F : Cx → List Item → Prop) (listed : Array Bool) (rem : List Nat) (Γc : Cx) (L : List Item) (a : Act) (w : World) : Prop where
  defers : a.defers = []
  size : a.tmps.size = κ.n
  holds : Holds κ.gl L w
  le : Le (foot κ.L0) κ.w0 (foot L) w
  env : EnvOk (Γc ++ Γ) L a.tmps w
  inv : HeadInv .any l.toArray m listed
  done : ∀ (k d : Nat) (T : Ty), hs[k]? = some (some (d, T)) → listed.getD k false = true → T.holds (foot L) w (a.tmps.getD d undef)
  rems : ∀ p, p ∈ rem → listed.getD p true = false
  remc : ∀ k, hs[k]? = some none → listed.getD k true = false → k ∈ rem
  nodup : rem.Nodup
  cdst : ∀ p, p ∈ Γc → ∃ k o, l[k]? = some o ∧ k < m ∧ o.dst = some p.1 ∧ listed.getD k false = true
  sub : Stays Ls rem L
  chain : Chain κ l hs Γ Ls F rem.length rem Γc L
  remlt : ∀ p, p ∈ rem → p < m
  gam : EnvOk Γ L a.tmps w
  remnone : ∀ p, p ∈ rem → hs[p]? = some none

def nodupB : List Nat → Bool
  | [] => true
  | x :: r => !r.contains x && nodupB r
theorem nodup_of : ∀ {r : List Nat}, nodupB r = true → r.Nodup
  | [], _ => List.nodup_nil
  | x :: r, h => by
    simp only [nodupB, Bool.and_eq_true, Bool.not_eq_true'] at h
    exact List.nodup_cons.2 ⟨fun hx => (by rw [List.contains_iff_mem.2 hx] at h; exact absurd h.1 (by simp)), nodup_of h.2⟩
def dstOk : Hs → List Oper → Bool
  | some p :: r, o :: os => (o.dst == some p.1) && dstOk r os
  | none :: r, _ :: os => dstOk r os
  | [], _ => true
  | _, [] => false
theorem dst_ok : ∀ {us : Hs} {os : List Oper}, dstOk us os = true → ∀ (k : Nat) {o : Oper} {p : Nat × Ty}, os[k]? = some o → us[k]? = some (some p) → o.dst = some p.1
  | [], _, _, k, o, p, _, hp => by simp at hp
  | some u :: us, x :: os, h, 0, o, p, ho, hp => by simp at ho hp; subst ho hp; simp [dstOk] at h; exact h.1
  | some u :: us, x :: os, h, k + 1, o, p, ho, hp => by simp [dstOk] at h; exact dst_ok h.2 k (by simpa using ho) (by simpa using hp)
  | none :: us, x :: os, h, 0, o, p, ho, hp => by simp at hp
  | none :: us, x :: os, h, k + 1, o, p, ho, hp => by simp [dstOk] at h; exact dst_ok h k (by simpa using ho) (by simpa using hp)
  | some u :: us, [], h, k, o, p, ho, hp => by simp at ho
  | none :: us, [], h, k, o, p, ho, hp => by simp at ho
def noneAt : Hs → Nat → List Nat
  | [], _ => []
  | some _ :: r, k => noneAt r (k + 1)
  | none :: r, k => k :: noneAt r (k + 1)
theorem none_at : ∀ {us : Hs} {b k : Nat}, us[k]? = some none → b + k ∈ noneAt us b
  | some _ :: us, b, 0, h => by simp at h
  | some _ :: us, b, k + 1, h => by
    have := none_at (us := us) (b := b + 1) (k := k) (by simpa using h)
    rw [show b + (k + 1) = b + 1 + k by omega]; exact this
  | none :: us, b, 0, h => by simp [noneAt]
  | none :: us, b, k + 1, h => by
    have := none_at (us := us) (b := b + 1) (k := k) (by simpa using h)
    rw [show b + (k + 1) = b + 1 + k by omega]
    exact List.mem_cons_of_mem _ this

/-- A region whose order is open. -/
theorem okC_draw {id : Nat} (m : Nat) (hs : Hs) (Ls : Two) (cs : List Nat) (hm : κ.P.follows .mixedOrders = true) (hml : hs.length = m) (hd : dstOk hs l = true) (hnd : nodupB ((l.take m).filterMap (·.dst)) = true) (hΓ : Γ.all (fun p => !((l.take m).filterMap (·.dst)).contains p.1) = true) (hn : ((l.take m).filterMap (·.dst)).all (fun d => Nat.blt d κ.n) = true)
    (hcs : noneAt hs 0 = cs) (hcn : nodupB cs = true) (hcm : cs.all (fun p => Nat.blt p m) = true) (hLs : ∀ it, it ∈ Ls.late → it ∈ L) (hLe : ∀ it, it ∈ Ls.early → it ∈ L) (hqs : Ls.qs.all (fun q => cs.contains q) = true)
    (hfwd : (List.range m).all (fun i => ((l[i]?).map (fun o => o.after.toList.all (fun e => !Region.binds .any e || Nat.blt e.on i))).getD true) = true)
    (hwait : m = l.length ∨ (Region.sinkB .any l.toArray m = true ∧ Region.chainB .any l.toArray m = true)) (hle : Nat.ble m l.length = true)
    (htail : Region.seqB .any l.toArray (l.length - m) m (Array.replicate m true ++ Array.replicate (l.length - m) false) = true)
    (hops : DrawOps κ l hs Γ Ls 0 (l.take m) hs)
    (h : Chain κ l hs Γ Ls (fun Γc L' => OkL κ l.toArray Q (l.drop m) (zipH (Γc ++ Γ) hs) L') cs.length cs [] L) : OkC κ (.region id l.toArray true) Q Γ L := fun a w s => by
  have hle' := Nat.le_of_ble_eq_true hle
  have hnod := nodup_of hnd
  have hdlt : ∀ k o d, l[k]? = some o → k < m → o.dst = some d → d ∈ (l.take m).filterMap (·.dst) := fun k o d ho hk hd' => List.mem_filterMap.2 ⟨o, List.mem_of_getElem? (by rw [List.getElem?_take, if_pos hk]; exact ho), hd'⟩
  have hinj : ∀ k k' o o' d, l[k]? = some o → k < m → o.dst = some d → l[k']? = some o' → k' < m → o'.dst = some d → k = k' := by
    have gen : ∀ (os : List Oper), (os.filterMap (·.dst)).Nodup → ∀ (k k' : Nat) (o o' : Oper) (d : Nat), os[k]? = some o → o.dst = some d → os[k']? = some o' → o'.dst = some d → k = k' := by
      intro os
      induction os with
      | nil => intro _ k k' o o' d h1; simp at h1
      | cons x os ih =>
        intro hN k k' o o' d h1 h2 h3 h4
        have hN' : (os.filterMap (·.dst)).Nodup := by
          cases hx : x.dst with
          | none => simpa [List.filterMap_cons, hx] using hN
          | some dx => simp only [List.filterMap_cons, hx] at hN; exact (List.nodup_cons.1 hN).2
        cases k with
        | zero =>
          cases k' with
          | zero => rfl
          | succ k' =>
            exfalso
            simp at h1; subst h1
            simp only [List.filterMap_cons, h2] at hN
            exact (List.nodup_cons.1 hN).1 (List.mem_filterMap.2 ⟨o', List.mem_of_getElem? (by simpa using h3), h4⟩)
        | succ k =>
          cases k' with
          | zero =>
            exfalso
            simp at h3; subst h3
            simp only [List.filterMap_cons, h4] at hN
            exact (List.nodup_cons.1 hN).1 (List.mem_filterMap.2 ⟨o, List.mem_of_getElem? (by simpa using h1), h2⟩)
          | succ k' => rw [ih hN' k k' o o' d (by simpa using h1) h2 (by simpa using h3) h4]
    intro k k' o o' d h1 hk h2 h3 hk' h4
    exact gen (l.take m) hnod k k' o o' d (by rw [List.getElem?_take, if_pos hk]; exact h1) h2 (by rw [List.getElem?_take, if_pos hk']; exact h3) h4
  have key : ∀ (c : Nat) (listed : Array Bool) (rem : List Nat) (Γc : Cx) (L : List Item) (a : Act) (w : World), cnt m listed = c → DSat κ l m hs Γ Ls (fun Γc L' => OkL κ l.toArray Q (l.drop m) (zipH (Γc ++ Γ) hs) L') listed rem Γc L a w → wpAny κ.P .any l.toArray Q (c + (l.length - m)) listed a w := by
    intro c
    induction c with
    | zero =>
      intro listed rem Γc L a w hc st
      have hall := cnt_zero listed m hc
      have hsz : listed.size = l.length := by simpa using st.inv.size
      have hlisted : listed = Array.replicate m true ++ Array.replicate (l.length - m) false := by
        apply Array.ext
        · simp [hsz]; omega
        · intro i h1 h2
          by_cases him : i < m
          · have h3 := hall i him
            simp [h1] at h3
            rw [h3, Array.getElem_append_left (by simpa using him)]
            simp
          · have h3 := st.inv.tail i (by omega) (by simp; omega)
            simp [h1] at h3
            rw [h3, Array.getElem_append_right (by simpa using him)]
            simp
      have hrem : rem = [] := by
        cases rem with
        | nil => rfl
        | cons p r =>
          exfalso
          have h1 := st.rems p (by simp)
          have hpm : p < m := by
            rcases Nat.lt_or_ge p m with q | q
            · exact q
            · exact absurd (st.remlt p (by simp)) (by omega)
          rw [hall p hpm] at h1; cases h1
      subst hrem
      have hF : OkL κ l.toArray Q (l.drop m) (zipH (Γc ++ Γ) hs) L := st.chain
      rw [Nat.zero_add]
      have hs' : Sat κ (zipH (Γc ++ Γ) hs) L a w := ⟨st.defers, st.size, st.holds, st.le, fun t T ht => by
        rcases zip_look ht with ⟨k, h1⟩ | ht
        · refine st.done k t T h1 ?_
          have hk : k < m := by rw [← hml]; exact (List.getElem?_eq_some_iff.1 h1).1
          have h3 := hall k hk
          have hks : k < listed.size := by rw [hsz]; omega
          simp [hks] at h3 ⊢; exact h3
        · exact st.env t T ht⟩
      have := wpAny_of_seq (P := κ.P) (md := .any) (Q' := Q) (ops := l.toArray) (l.drop m) m listed a w (fun j => by simp [List.getElem?_drop]) (by rw [hlisted]; simpa using htail) (hF a w hs')
      simpa using this
    | succ c ih =>
      intro listed rem Γc L a w hc st
      rw [show c + 1 + (l.length - m) = (c + (l.length - m)) + 1 by omega]
      have hsz : listed.size = l.length := by simpa using st.inv.size
      have hex : ¬ ∀ i, i < m → listed.getD i true = true := by
        intro q
        have : ∀ k, k ≤ m → cnt k listed = 0 := by
          intro k
          induction k with
          | zero => intro _; rfl
          | succ k ihk => intro hk; simp only [cnt, ihk (by omega), q k (by omega)]; rfl
        have := this m (Nat.le_refl _); omega
      refine ⟨fun hnil => ?_, fun i hi => ?_⟩
      · exfalso
        refine hex fun i => ?_
        induction i using Nat.strongRecOn with
        | _ i ihi =>
          intro him
          cases hl : listed.getD i true with
          | true => rfl
          | false =>
            exfalso
            have hoi : l[i]? = some (l[i]'(by omega)) := List.getElem?_eq_getElem (by omega)
            have : i ∈ Region.ready .any l.toArray listed := by
              refine mem_ready.2 ⟨hl, _, (by rw [List.getElem?_toArray]; exact hoi), fun e he hb => ?_⟩
              have h1 := List.all_eq_true.1 hfwd i (List.mem_range.2 him)
              rw [hoi] at h1
              simp only [Option.map_some, Option.getD_some] at h1
              have h2 := List.all_eq_true.1 h1 e (by simpa using he)
              simp only [hb, Bool.not_true, Bool.false_or] at h2
              have h3 : e.on < i := Nat.lt_of_succ_le (Nat.le_of_ble_eq_true h2)
              have h4 := ihi e.on h3 (by omega)
              have h5 : e.on < listed.size := by omega
              simp [h5] at h4 ⊢; exact h4
            rw [hnil] at this; cases this
      · have him : i < m := by
          rcases Nat.lt_or_ge i m with q | q
          · exact q
          · exfalso
            obtain ⟨_, oi, hoi, _⟩ := mem_ready.1 hi
            have hil : i < l.length := by have := (Array.getElem?_eq_some_iff.1 hoi).1; simpa using this
            rcases hwait with hw | ⟨hs1, hc1⟩
            · omega
            · have hinv := st.inv
              refine hex fun i0 hi0 => ?_
              cases hu0 : listed.getD i0 true with
              | true => rfl
              | false => exact absurd hi (tail_waits hs1 hc1 (by simp; omega) hinv _ i0 rfl hi0 hu0 i q)
        obtain ⟨hun, oi, hoi, hpre⟩ := mem_ready.1 hi
        have hoi' : l[i]? = some oi := by simpa using hoi
        have hid : (l.take m)[i]? = some oi := by rw [List.getElem?_take, if_pos him]; exact hoi'
        have hall : ∀ e, e ∈ oi.after.toList → Region.binds .any e = true → listed.getD e.on false = true := fun e he hb => hpre e (by simpa using he) hb
        have hctx : ∀ Δ : Cx, EnvOk Δ L a.tmps w → EnvOk (ctxOf hs Δ oi.after.toList) L a.tmps w := fun Δ hΔ t T ht => by
          rcases ctx_look ht with ⟨e, he, hb, h1⟩ | ht
          · exact st.done e.on t T h1 (hall e he hb)
          · exact hΔ t T ht
        have hset : ∀ k, i ≠ k → (listed.setIfInBounds i true).getD k false = true → listed.getD k false = true := fun k hk h => by rw [getD_set_ne false hk] at h; exact h
        have hsetT : ∀ k, listed.getD k false = true → (listed.setIfInBounds i true).getD k false = true := fun k h => getD_set_true h
        -- what was told stays told behind a write to this operation's slot
        have hkeep : ∀ (v : Value) (t : Nat), (∀ d, oi.dst = some d → d ≠ t) → (a.put oi.dst v).tmps.getD t undef = a.tmps.getD t undef := fun v t ht => by
          cases hd' : oi.dst with
          | none => rfl
          | some d =>
            simp only [Act.put]
            have hdn : d < κ.n := Nat.lt_of_succ_le (Nat.le_of_ble_eq_true (List.all_eq_true.1 hn _ (hdlt i oi d hoi' him hd')))
            rw [getD_set _ _ _ _ (by rw [st.size]; exact hdn), if_neg (ht d hd')]
        have hΓne : ∀ t T, Γ.look t = some T → ∀ d, oi.dst = some d → d ≠ t := fun t T ht d hd' hq => by
          obtain ⟨p, hp1, hp2⟩ := look_mem ht
          have h6 := List.all_eq_true.1 hΓ p hp1
          rw [hp2, ← hq] at h6
          rw [List.contains_iff_mem.2 (hdlt i oi d hoi' him hd')] at h6
          cases h6
        have hΓcne : ∀ t T, Γc.look t = some T → ∀ d, oi.dst = some d → d ≠ t := fun t T ht d hd' hq => by
          obtain ⟨p, hp1, hp2⟩ := look_mem ht
          obtain ⟨k, o, h1, h2, h3, h4⟩ := st.cdst p hp1
          have := hinj i k oi o d hoi' him hd' h1 h2 (by rw [h3, hp2, hq])
          subst this
          have : i < listed.size := by rw [hsz]; omega
          simp [this] at hun h4
          rw [hun] at h4; cases h4
        have hdone : ∀ (v : Value) (k d : Nat) (T : Ty), hs[k]? = some (some (d, T)) → i ≠ k → (a.put oi.dst v).tmps.getD d undef = a.tmps.getD d undef := fun v k d T h1 hik => hkeep v d fun d' hd' hq => by
          have hkm : k < m := by rw [← hml]; exact (List.getElem?_eq_some_iff.1 h1).1
          have hok : l[k]? = some (l[k]'(by omega)) := List.getElem?_eq_getElem (by omega)
          exact hik (hinj i k oi _ d' hoi' him hd' hok hkm (by rw [hq]; exact dst_ok hd k hok h1))
        have hput2 : (∀ v, (a.put oi.dst v).defers = [] ∧ (a.put oi.dst v).tmps.size = κ.n) := fun v => by
          cases oi.dst <;> simp [Act.put, st.defers, st.size]
        have hcnt := cnt_set listed i hun m him
        have hhs : ∃ z, hs[i]? = some z := ⟨_, List.getElem?_eq_getElem (by omega)⟩
        obtain ⟨z, hz⟩ := hhs
        unfold wpOp
        rw [hoi]
        dsimp only
        cases z with
        | some p =>
          obtain ⟨d, T⟩ := p
          have hdo : ∃ Lx, (∀ it, it ∈ Lx → it ∈ L) ∧ DrawOp κ l hs Γ Lx oi T := by
            rcases hops.at i hid hz with h1 | ⟨h1, h2⟩
            · exact ⟨_, st.sub.1, h1⟩
            · refine ⟨_, ?_, h2⟩
              rcases st.sub.2 with h3 | h3
              · exfalso
                obtain ⟨q, hq, hqr⟩ := List.all_eq_false.1 h3
                have hq0 : q ∈ cs := List.contains_iff_mem.1 (List.all_eq_true.1 hqs q hq)
                have hqm : q < m := Nat.lt_of_succ_le (Nat.le_of_ble_eq_true (List.all_eq_true.1 hcm q hq0))
                have hqn : hs[q]? = some none := by
                  have gen : ∀ (us : Hs) (b : Nat), q ∈ noneAt us b → ∃ k, q = b + k ∧ us[k]? = some none := by
                    intro us
                    induction us with
                    | nil => intro b hb; cases hb
                    | cons x us ih =>
                      intro b hb
                      cases x with
                      | some _ => obtain ⟨k, h1, h2⟩ := ih (b + 1) hb; exact ⟨k + 1, by omega, by simpa using h2⟩
                      | none =>
                        rcases List.mem_cons.1 hb with q | q
                        · exact ⟨0, by omega, rfl⟩
                        · obtain ⟨k, h1, h2⟩ := ih (b + 1) q; exact ⟨k + 1, by omega, by simpa using h2⟩
                  obtain ⟨k, h4, h5⟩ := gen hs 0 (by rw [hcs]; exact hq0)
                  rw [show q = k by omega]; exact h5
                have hql : listed.getD q true = true := by
                  cases hl : listed.getD q true with
                  | true => rfl
                  | false => exact absurd (List.contains_iff_mem.2 (st.remc q hqn hl)) hqr
                have hcl : Closed l listed := fun j oj hj hlj e he hb => st.inv.closed j oj (by simpa using hj) hlj e he hb
                have hqs' : q < listed.size := by rw [hsz]; omega
                have hql' : listed.getD q false = true := by simp [hqs'] at hql ⊢; exact hql
                have hoq : l[q]? = some (l[q]'(by omega)) := List.getElem?_eq_getElem (by omega)
                have ht := List.all_eq_true.1 h1 q hq
                rw [Nat.zero_add] at ht
                cases ha : (ancs l [])[q]? with
                | none => rw [ha] at ht; simp at ht
                | some mk =>
                  rw [ha] at ht
                  have h9 := anc_ok hcl l [] (fun k o hk => by simpa using hk) (fun k m' hk => by simp at hk) q mk ha i ht _ hoq (fun e he hb => hcl q _ hoq hql' e he hb)
                  have : i < listed.size := by rw [hsz]; omega
                  simp [this] at h9 hun
                  rw [hun] at h9; cases h9
              · exact h3
          obtain ⟨Lx, hLx, hdo⟩ := hdo
          have hdd : oi.dst = some d := dst_ok hd i hoi' hz
          have hdn : d < κ.n := Nat.lt_of_succ_le (Nat.le_of_ble_eq_true (List.all_eq_true.1 hn _ (hdlt i oi d hoi' him hdd)))
          have hnext : ∀ v w', Holds κ.gl L w' → Le (foot L) w (foot L) w' → T.holds (foot L) w' v → wpAny κ.P .any l.toArray Q (c + (l.length - m)) (listed.setIfInBounds i true) (a.put oi.dst v) w' := by
            intro v w' hh hl hv
            refine ih _ rem Γc L _ _ (by omega) ?_
            refine ⟨(hput2 v).1, (hput2 v).2, hh, st.le.trans hl, fun t U ht => ?_, st.inv.set hi him, fun k d' U h1 h3 => ?_, fun p hp => ?_, fun k h1 h2 => ?_, st.nodup, fun p hp => ?_, st.sub, st.chain, st.remlt, fun t U ht => by rw [hkeep v t (hΓne t U ht)]; exact U.mono (st.gam t U ht) hl, st.remnone⟩
            · have e1 : (a.put oi.dst v).tmps.getD t undef = a.tmps.getD t undef := hkeep v t (by
                rcases app_look ht with q | q
                · exact hΓcne t U q
                · exact hΓne t U q)
              rw [e1]
              exact U.mono (st.env t U ht) hl
            · by_cases hik : i = k
              · subst hik
                rw [hz] at h1; cases h1
                rw [hdd]
                simp only [Act.put]
                rw [getD_set _ _ _ _ (by rw [st.size]; exact hdn), if_pos rfl]
                exact hv
              · rw [hdone v k d' U h1 hik]
                exact U.mono (st.done k d' U h1 (hset k hik h3)) hl
            · by_cases hip : i = p
              · subst hip
                have := st.remnone i hp
                rw [hz] at this; cases this
              · rw [getD_set_ne true hip]; exact st.rems p hp
            · by_cases hik : i = k
              · subst hik; rw [hz] at h1; cases h1
              · rw [getD_set_ne true hik] at h2; exact st.remc k h1 h2
            · obtain ⟨k, o, h1, h2, h3, h4⟩ := st.cdst p hp
              exact ⟨k, o, h1, h2, h3, hsetT k h4⟩
          have hsk := hnext undef w st.holds (Le.refl _ _)
          have hcx := hctx Γ (fun t U ht => by
            -- Γ alone
            have := st.gam t U ht
            exact this)
          rcases hdo.ok with ⟨hg, hdoes⟩ | ⟨j, want, dj, b, hg, hj, hlk, hor⟩
          · rw [if_pos (by simp [Region.wanted, hg])]
            exact .inl (hdoes L a w hLx st.holds hcx _ _ hnext)
          · have he : a.tmps.getD dj undef = b := hcx dj _ hlk
            rcases hor with ⟨hw, hdoes⟩ | ⟨hw, hTu⟩
            · rw [if_pos]
              · exact .inl (hdoes L a w hLx st.holds hcx _ _ hnext)
              · subst hw
                have : a.tmps[dj]? = some (.bool want) := by
                  rw [Array.getD_eq_getD_getElem?] at he
                  cases hx : a.tmps[dj]? with
                  | none => rw [hx] at he; simp [undef] at he
                  | some u => rw [hx] at he; simp at he; rw [he]
                simp [Region.wanted, hg, yielded, hj, this]
            · rw [if_neg]
              · exact hsk (by have hTu' : T = Ty.val undef := hTu; rw [hTu']; rfl)
              · rcases hw with hw | hw
                · subst hw
                  have : a.tmps[dj]? = some (.bool (!want)) := by
                    rw [Array.getD_eq_getD_getElem?] at he
                    cases hx : a.tmps[dj]? with
                    | none => rw [hx] at he; simp [undef] at he
                    | some u => rw [hx] at he; simp at he; rw [he]
                  simp [Region.wanted, hg, yielded, hj, this]
                · subst hw
                  have : ∀ b, a.tmps[dj]? ≠ some (.bool b) := fun b hb => by
                    rw [Array.getD_eq_getD_getElem?, hb] at he
                    simp [undef] at he
                  have h7 : yielded l.toArray a.tmps j = none := by
                    simp only [yielded, List.getElem?_toArray, hj, Option.bind_some]
                    first
                      | done
                      | (split
                         · rename_i b hb; exact absurd hb (this b)
                         · rfl)
                  simp [Region.wanted, hg, h7]
        | none =>
          have hir : i ∈ rem := st.remc i hz hun
          have hlen : rem.length = (rem.erase i).length + 1 := by
            rw [List.length_erase_of_mem hir]
            have : 0 < rem.length := List.length_pos_of_mem hir
            omega
          have hch := st.chain
          rw [hlen] at hch
          obtain ⟨ns, hns, hall2⟩ := hch
          have hcl : Closed l listed := fun j oj hj hlj e he hb => st.inv.closed j oj (by simpa using hj) hlj e he hb
          have hin : i ∈ ns := by
            rw [← hns]
            refine List.mem_filter.2 ⟨hir, List.all_eq_true.2 fun q hq => ?_⟩
            simp only [Bool.or_eq_true, beq_iff_eq, Bool.not_eq_true']
            by_cases hqi : q = i
            · exact .inl hqi
            · right
              cases ht : (((ancs l [])[i]?).getD 0).testBit q with
              | false => rfl
              | true =>
                exfalso
                cases ha : (ancs l [])[i]? with
                | none => rw [ha] at ht; simp at ht
                | some mk =>
                  rw [ha] at ht
                  have h9 := anc_ok hcl l [] (fun k o hk => by simpa using hk) (fun k m' hk => by simp at hk) i mk ha q ht oi hoi' (fun e he hb => hpre e (by simpa using he) hb)
                  have h10 := st.rems q hq
                  have hqm := st.remlt q hq
                  have : q < listed.size := by rw [hsz]; omega
                  simp [this] at h9 h10
                  rw [h9] at h10; cases h10
          obtain ⟨o', ho', hg, hdo⟩ := hall2.at i hin
          have : o' = oi := by rw [hoi'] at ho'; exact (Option.some.inj ho').symm
          subst this
          have hwt : Region.wanted o' (yielded l.toArray a.tmps) = true := by
            rcases hg with hg | ⟨j, want, dj, hg, hj, hlk⟩
            · simp [Region.wanted, hg]
            · have he : a.tmps.getD dj undef = .bool want := hctx _ st.env dj _ hlk
              have : a.tmps[dj]? = some (.bool want) := by
                rw [Array.getD_eq_getD_getElem?] at he
                cases hx : a.tmps[dj]? with
                | none => rw [hx] at he; simp [undef] at he
                | some u => rw [hx] at he; simp at he; rw [he]
              simp [Region.wanted, hg, yielded, hj, this]
          rw [if_pos hwt]
          refine .inl (hdo a w ⟨st.defers, st.size, st.holds, st.le, hctx _ st.env⟩ _ _ ?_)
          intro v w' T L' hh hl hv hC
          refine ih _ (rem.erase i) (putD o'.dst T Γc) L' _ _ (by omega) ?_
          have hgkeep : ∀ t U, Γ.look t = some U → U.holds (foot L') w' ((a.put o'.dst v).tmps.getD t undef) := fun t U ht => by
            rw [hkeep v t (hΓne t U ht)]; exact U.mono (st.gam t U ht) hl
          refine ⟨(hput2 v).1, (hput2 v).2, hh, st.le.trans hl, fun t U ht => ?_, st.inv.set hi him, fun k d' U h1 h3 => ?_, fun p hp => ?_, fun k h1 h2 => ?_, st.nodup.erase i, fun p hp => ?_, hC.1, hC.2, fun p hp => st.remlt p (List.mem_of_mem_erase hp), hgkeep, fun p hp => st.remnone p (List.mem_of_mem_erase hp)⟩
          · cases hd' : o'.dst with
            | none =>
              have e0 : putD o'.dst T Γc = Γc := by rw [hd']; rfl
              rw [e0] at ht
              have e1 : (a.put none v).tmps.getD t undef = a.tmps.getD t undef := rfl
              rw [e1]; exact U.mono (st.env t U ht) hl
            | some d =>
              have hdn : d < κ.n := Nat.lt_of_succ_le (Nat.le_of_ble_eq_true (List.all_eq_true.1 hn _ (hdlt i o' d hoi' him hd')))
              have e0 : putD o'.dst T Γc = (d, T) :: Γc := by rw [hd']; rfl
              rw [e0] at ht
              simp only [List.cons_append, Cx.look] at ht
              simp only [Act.put]
              rw [getD_set _ _ _ _ (by rw [st.size]; exact hdn)]
              split at ht
              · rename_i hk; cases ht; rw [if_pos hk]; exact hv
              · rename_i hk; rw [if_neg hk]; exact U.mono (st.env t U ht) hl
          · have hik : i ≠ k := fun hq => by subst hq; rw [hz] at h1; cases h1
            rw [hdone v k d' U h1 hik]
            exact U.mono (st.done k d' U h1 (hset k hik h3)) hl
          · have hpi : i ≠ p := fun hq => by subst hq; exact (st.nodup.not_mem_erase) hp
            rw [getD_set_ne true hpi]; exact st.rems p (List.mem_of_mem_erase hp)
          · by_cases hik : i = k
            · subst hik
              have : i < listed.size := by rw [hsz]; omega
              simp [this] at h2
            · rw [getD_set_ne true hik] at h2
              exact (List.mem_erase_of_ne (fun q => hik q.symm)).2 (st.remc k h1 h2)
          · have hold : p ∈ Γc → ∃ k o, l[k]? = some o ∧ k < m ∧ o.dst = some p.1 ∧ (listed.setIfInBounds i true).getD k false = true := fun hp => by
              obtain ⟨k, o, h1, h2, h3, h4⟩ := st.cdst p hp
              exact ⟨k, o, h1, h2, h3, hsetT k h4⟩
            cases hd' : o'.dst with
            | none => rw [hd'] at hp; exact hold hp
            | some d =>
              rw [hd'] at hp
              rcases List.mem_cons.1 hp with q | q
              · subst q
                have : i < listed.size := by rw [hsz]; omega
                exact ⟨i, o', hoi', him, hd', by simp [this]⟩
              · exact hold q
  subst hcs
  have hinit : DSat κ l m hs Γ Ls (fun Γc L' => OkL κ l.toArray Q (l.drop m) (zipH (Γc ++ Γ) hs) L') (Array.replicate l.toArray.size false) (noneAt hs 0) [] L a w.drew :=
    ⟨s.defers, s.size, s.holds.drew, s.le.trans (Le.drew _ w), s.env.le (Le.drew _ w),
     ⟨by simp, fun j oj _ hl => (by rw [getD_replicate_false] at hl; cases hl), fun t _ ht => getD_in (by simpa using ht) (getD_replicate_false _ _)⟩,
     fun k d T _ hl => (by rw [getD_replicate_false] at hl; cases hl),
     fun p hp => (getD_in (by have h1 := Nat.lt_of_succ_le (Nat.le_of_ble_eq_true (List.all_eq_true.1 hcm p hp)); simp; omega) (getD_replicate_false _ _)),
     fun k hk _ => (by have := none_at (b := 0) hk; simpa using this),
     nodup_of hcn, fun p hp => (by cases hp), ⟨hLs, .inr hLe⟩, h,
     fun p hp => Nat.lt_of_succ_le (Nat.le_of_ble_eq_true (List.all_eq_true.1 hcm p hp)),
     fun t T ht => (s.env.le (Le.drew _ w)) t T ht,
     fun p hp => by
       have gen : ∀ (us : Hs) (b : Nat), p ∈ noneAt us b → ∃ k, p = b + k ∧ us[k]? = some none := by
         intro us
         induction us with
         | nil => intro b hb; cases hb
         | cons x us ih =>
           intro b hb
           cases x with
           | some _ => obtain ⟨k, h1, h2⟩ := ih (b + 1) hb; exact ⟨k + 1, by omega, by simpa using h2⟩
           | none =>
             rcases List.mem_cons.1 hb with q | q
             · exact ⟨0, by omega, rfl⟩
             · obtain ⟨k, h1, h2⟩ := ih (b + 1) q; exact ⟨k + 1, by omega, by simpa using h2⟩
       obtain ⟨k, h1, h2⟩ := gen hs 0 hp
       rw [show p = k by omega]; exact h2⟩
  refine wp_region_any hm ?_
  have hcnt : ∀ k, cnt k (Array.replicate l.toArray.size false) ≤ k := by
    intro k
    induction k with
    | zero => exact Nat.le_refl _
    | succ k ih => simp only [cnt]; split <;> omega
  refine wpAny_le ?_ (key _ _ _ _ _ a w.drew rfl hinit)
  have := hcnt m
  simp at this ⊢; omega
end
end Go.Proofs.YtocfnpnnbmicmaaDoor.Tc
