/- What is handed in, read as Lean's data; the closed facts; the witness. -/
import Derived.Test.YtocfnpnnbmicmaaDoorRows
import Derived.Test.YtocfnpnnbmicmaaDoorChecked
import Derived.KernelRfl
import Derived.JoinedOf
import Derived.WideKeyArgs
import Derived.Deep.DeepHandedRow
import Derived.Test.YtocfnpnnbmicmaaDoorCards
import Derived.Test.YtocfnpnnbmicmaaDoorTie
import Derived.ProofKit
import Derived.LaidMore
import Derived.Test.YtocfnpnnbmicmaaDoorZDd3
section
set_option maxRecDepth 100000
namespace Go.Proofs.YtocfnpnnbmicmaaDoor.Closed
open Go
theorem lifts_of {P : Program} {b : Bool} (cs : List Char) (h : P.initOrder = String.ofList cs) (hb : (let ws := behindMainWord (wordsSigns cs); (ws.head? == some "carried".toList && ws.take 3 != ["carried".toList, "gc".toList, "cut".toList]) || (let r := stripLifts liftWords ws; if r.2.head? == some "cut".toList then r.1 else []).contains "finals") = b) : P.liftsFinal = b := by
 subst hb
 unfold Program.liftsFinal Program.headLifts
 rw [h, String.toList_ofList]
theorem make_of {P : Program} {b : Option Make} (cs : List Char) (h : P.initOrder = String.ofList cs) (hb : (let hl := (let r := stripLifts liftWords (behindMainWord (wordsSigns cs)); if r.2.head? == some "cut".toList then r.1 else []);
 match behindMainWord (wordsSigns cs) with
 | c :: rest => if c == "gc".toList || c == "spec".toList then some .whole else if c == "cut".toList || (c == "finals".toList && rest.head? == some "cut".toList) then some .cut else if c == "carried".toList then some .carried else if hl.isEmpty then none else some (.lifted hl)
 | [] => none) = b) : P.make = b := by
 subst hb
 unfold Program.make Program.headLifts
 rw [h, String.toList_ofList]
 rfl
theorem enter_of {P : Program} (cs : List Char) (h : P.initOrder = String.ofList cs) (hw : (behindMainWord (wordsSigns cs) == "cut".toList :: (behindMainWord (wordsSigns cs)).tail) = true) (hs : (stripLifts liftWords ("cut".toList :: (behindMainWord (wordsSigns cs)).tail) == ([], "cut".toList :: (behindMainWord (wordsSigns cs)).tail)) = true) (h1 : P.laysLater = false) (h2 : P.bearsReflect = false) (h3 : P.doorFits [] = true) : P.mayEnter = true := by
 unfold Program.mayEnter
 generalize (behindMainWord (wordsSigns cs)).tail = rest at hw hs
 rw [h, String.toList_ofList, eq_of_beq hw]
 have hs' := eq_of_beq hs
 simp only [hs', h1, h2, h3]
 simp
theorem main_of {P : Program} {b : Option (Bool × List Char)} (cs : List Char) (h : P.initOrder = String.ofList cs) (hb : (match wordsSigns cs with
 | h :: s :: _ => if !isSumSigns s then none else if h == "harness".toList then some (true, s) else if h == "ownmain".toList then some (false, s) else none
 | _ => none) = b) : P.mainIs = b := by
 subst hb
 unfold Program.mainIs
 rw [h, String.toList_ofList]
 rfl
theorem laidOut : laidOutB Tryd.pinned.checked.prog = true := by kernel_rfl
theorem maps : mapsRowed Tryd.pinned.checked.prog = true := by kernel_rfl
theorem stops : (Tryd.pinned.checked.prog.stops == []) = true := by kernel_rfl
theorem knobs : (Tryd.pinned.checked.prog.stopKnobs == []) = true := by kernel_rfl
theorem keys : Tryd.pinned.checked.prog.plainKeys = true := by kernel_rfl
theorem heard : Tryd.pinned.checked.prog.stopsHeard = true := by kernel_rfl
theorem lifts : Tryd.pinned.checked.prog.liftsFinal = false := lifts_of _ rfl (by kernel_rfl)
theorem make : Tryd.pinned.checked.prog.make = some .cut := make_of _ rfl (by kernel_rfl)
theorem later : Tryd.pinned.checked.prog.laysLater = false := by kernel_rfl
theorem reflect : Tryd.pinned.checked.prog.bearsReflect = false := by kernel_rfl
theorem door : Tryd.pinned.checked.prog.doorFits [] = true := by kernel_rfl
theorem enter : Tryd.pinned.checked.prog.mayEnter = true := enter_of _ rfl (by kernel_rfl) (by kernel_rfl) later reflect door
theorem band {a b : Bool} (ha : a = true) (hb : b = true) : (a && b) = true := by rw [ha, hb]; rfl
theorem closed_of {f : FuncId} {fn : Func} {s : ChangeSpec} {c : OpenClaim} (k0 : c.wf (OpenSpec.ofChange s) = true) (k3 : fn.params.all (Tryd.pinned.checked.prog.readableRec ·) = true) (k4 : namedTie Tryd.pinned.checked.prog c.named s.vars = true)
  (k5 : (c.stops == []) = true) (k7 : (c.knobs == []) = true) (k9 : (c.inPlace == Tryd.pinned.checked.prog.inPlace f) = true) (k10 : (c.unfollowed == Tryd.pinned.checked.prog.unfollowed f) = true) (k11 : (c.recurses == Tryd.pinned.checked.prog.recurses f) = true) (k12 : (c.named == Tryd.pinned.checked.prog.varsNamed f) = true)
  (k13 : (c.maps == (fn.params.toList ++ s.plain.varTypes Tryd.pinned.checked.prog).any (Tryd.pinned.checked.prog.mapsRec ·)) = true) (k14 : (c.ifaces == (fn.params.toList ++ s.plain.varTypes Tryd.pinned.checked.prog).any (Tryd.pinned.checked.prog.ifacesRec ·)) = true) (k15 : (c.mapsOut == Tryd.pinned.checked.prog.mapsAmong fn.resultTypes.toList) = true)
  (k16 : (c.loops == (fn.params.toList ++ s.plain.varTypes Tryd.pinned.checked.prog).any (Tryd.pinned.checked.prog.loopsFrom ·)) = true) (k17 : (c.wideKeys == (fn.params.toList ++ s.plain.varTypes Tryd.pinned.checked.prog ++ fn.resultTypes.toList).any (Tryd.pinned.checked.prog.wideKeysFrom ·)) = true)
  (k18 : s.vars.all (Tryd.pinned.checked.prog.varReadable ·) = true) (k19 : fn.resultTypes.all (fun t => Tryd.pinned.checked.prog.readableRec t && decide (t < Tryd.pinned.checked.prog.types.size)) = true) (k20 : (c.ifacesOut == fn.resultTypes.toList.any (Tryd.pinned.checked.prog.ifacesRec ·)) = true)
  (k21 : (c.loopsOut == fn.resultTypes.toList.any (Tryd.pinned.checked.prog.loopsFrom ·)) = true) (k22 : c.plainKeys = true) (k23 : c.shortTexts.isNone = true) (k26 : c.lifted = false) (k27 : c.make = .cut)
  (k28 : (c.kinds == (if c.domain.isEmpty then [] else fn.params.toList.map fun t => match Tryd.pinned.checked.prog.underlying t with | some (.int k) => some k | _ => none)) = true) (k29 : (c.pinned == c.pinnedBy) = true)
  (k30 : (c.veiled == (fn.params.toList ++ s.plain.varTypes Tryd.pinned.checked.prog ++ fn.resultTypes.toList).any (Tryd.pinned.checked.prog.veiledRec ·)) = true) (k31 : c.veiledFits Tryd.pinned.checked.prog fn.params.toList (fn.params.toList ++ s.plain.varTypes Tryd.pinned.checked.prog ++ fn.resultTypes.toList) = true) :
  joinedFacts Tryd.pinned.checked.prog f fn s c = true := by
 have h22 : (c.plainKeys == Tryd.pinned.checked.prog.plainKeys) = true := by rw [keys, k22]; rfl
 have h26 : (c.lifted == Tryd.pinned.checked.prog.liftsFinal) = true := by rw [lifts, k26]; rfl
 have h27 : (Tryd.pinned.checked.prog.make == some c.make) = true := by rw [make, k27]; rfl
 exact band (band (band (band (band (band (band (band (band (band (band (band (band (band (band (band (band (band (band (band (band (band (band (band (band (band (band (band (band (band (band k0 laidOut) maps) k3) k4) k5) stops) k7) knobs) k9) k10) k11) k12) k13) k14) k15) k16) k17) k18) k19) k20) k21) h22) k23) heard) enter) h26) h27) k28) k29) k30) k31
end Go.Proofs.YtocfnpnnbmicmaaDoor.Closed
end
section
set_option linter.unusedVariables false
set_option linter.unusedSimpArgs false
namespace Go.Proofs.YtocfnpnnbmicmaaDoor.Tc
open Go Go.RowKit Go.ChangeShapes
def CsAt (W : World) (cs : List Value) (ts : List Ty) : Prop := ts.length = cs.length ∧ ∀ (j : Nat) (T : Ty), ts[j]? = some T → ∃ u, cs[j]? = some u ∧ u.oneCell' = true ∧ T.holds (foot []) W u
def Reads {α : Type} (t : TypeId) (f : α → List Ty) (ok : α → Prop) : Prop :=
 ∀ {H : Type} {enc : TypeId × Value → H} {W : World} {base : Nat} {sp : Nat → Bool} {held : Bool} {fuel : Nat} {cs : List Value} {d : DataW H} {ps : List MemPlace},
  DataW.trod enc Tryd.prog W base sp held fuel t cs = some (d, ps) → (∀ n ∈ d.weights Tryd.prog t, n ≤ reachBytes) → ∃ x, ok x ∧ CsAt W cs (f x)
def I64 (n : Int) : Prop := -9223372036854775808 ≤ n ∧ n ≤ 9223372036854775807
theorem i64_wf {n : Int} (h : (Lit.int .i64 n).wf = true) : I64 n := by
 simp [Lit.wf, IntKind.min, IntKind.max, IntKind.bits, IntKind.signed] at h
 unfold I64; omega
theorem cs_one {W : World} {v : Value} {T : Ty} (h1 : v.oneCell' = true) (h : T.holds (foot []) W v) : CsAt W [v] [T] := ⟨rfl, fun j U hU => by
 match j with
 | 0 => cases hU; exact ⟨v, rfl, h1, h⟩
 | j + 1 => simp at hU⟩
theorem reads_int {t : TypeId} (ht : Tryd.prog.underlying t = some (.int .i64)) : Reads t lI I64 := fun h _ => by
 rename_i fuel cs d ps
 obtain ⟨n, rfl, hx, hw⟩ := DataW.trod_int ht h
 exact ⟨n, i64_wf hw, cs_one rfl rfl⟩
theorem choose_list {α : Type} {p : Nat → α → Prop} : ∀ (n : Nat), (∀ i, i < n → ∃ x, p i x) → ∃ l : List α, l.length = n ∧ ∀ (i : Nat) (x : α), l[i]? = some x → p i x
 | 0, _ => ⟨[], rfl, fun i x h => by simp at h⟩
 | n + 1, h => by
  obtain ⟨l, h1, h2⟩ := choose_list n (fun i hi => h i (by omega))
  obtain ⟨x, hx⟩ := h n (by omega)
  refine ⟨l ++ [x], by simp [h1], fun i y hy => ?_⟩
  rw [List.getElem?_append] at hy
  split at hy
  ·exact h2 i y hy
  ·rename_i hi
   have : i = n := by have := (List.getElem?_eq_some_iff.1 hy).1; simp at this; omega
   subst this
   simp [h1] at hy
   subst hy; exact hx
def lenOk {α : Type} (bytes : Nat) (l : List α) : Prop := l.length * bytes ≤ reachBytes ∧ l.length ≤ maxLen
theorem weights_all {H : Type} {e : TypeId} {d : DataW H} : ∀ {l : List (DataW H)}, d ∈ l → ∀ n, n ∈ d.weights Tryd.prog e → n ∈ DataW.weightsAll Tryd.prog e l
 | x :: l, hd, n, hn => by
  simp only [DataW.weightsAll, List.mem_append]
  rcases List.mem_cons.1 hd with rfl | q
  ·exact .inl hn
  ·exact .inr (weights_all q n hn)
theorem reads_slice {α : Type} {t e : TypeId} {f : α → List Ty} {ok : α → Prop} {sz bytes : Nat} (ht : Tryd.prog.underlying t = some (.slice e)) (hsz : Tryd.prog.cellsOf e = sz) (hby : Tryd.prog.bytesOf e = bytes) (hf : ∀ x, (f x).length = sz) (he : Reads e f ok) :
  Reads t (fun l : List α => [tL sz f l]) (fun l => lenOk bytes l ∧ ∀ x, x ∈ l → ok x) := fun h hwt => by
 rename_i H enc W base sp held fuel cs d ps
 rcases DataW.trod_slice ht h with ⟨rfl, hx⟩ | ⟨a, len, cap, elems, rest, n, _, rfl, hx, _, hl, hm, hlen, hel, _⟩
 ·exact ⟨[], ⟨⟨by simp, by simp⟩, fun x hx => by cases hx⟩, cs_one rfl ⟨none, 0, rfl, Nat.le_refl _, fun i es hi => by simp at hi⟩⟩
 ·simp only [Prod.mk.injEq] at hx
  obtain ⟨rfl, _⟩ := hx
  have hw1 : (len + rest.length) * bytes ≤ reachBytes := by
   have := hwt ((len + rest.length) * bytes) (by simp [DataW.weights, ht, hby, hlen])
   exact this
  obtain ⟨l, h1, h2⟩ := choose_list (p := fun i x => ok x ∧ ∃ c, W.cells? base (a.add (i * sz)) sz = some c ∧ CsAt W c (f x)) len (fun i hi => by
   have h3 := hel i hi
   rw [hsz] at h3
   have hlt : i < elems.length := by omega
   rw [List.getElem?_eq_getElem hlt] at h3
   obtain ⟨c, hc1, hc2⟩ := Option.bind_eq_some_iff.1 h3
   obtain ⟨x, hx1, hx2⟩ := he (d := (elems[i]).1) (ps := (elems[i]).2) hc2 (fun n hn => hwt n (by
    simp only [DataW.weights, ht, List.mem_cons, List.mem_append]
    exact .inr (.inl (weights_all (List.mem_map.2 ⟨_, List.getElem_mem hlt, rfl⟩) n hn))))
   exact ⟨x, hx1, c, hc1, hx2⟩)
  refine ⟨l, ⟨⟨Nat.le_trans (Nat.mul_le_mul_right _ (by omega)) hw1, by omega⟩, fun x hx => ?_⟩, cs_one rfl ⟨some a, cap, by simp [h1], by simpa [h1] using hl, fun i es hi => ?_⟩⟩
  ·obtain ⟨i, hi⟩ := List.mem_iff_getElem?.1 hx
   exact (h2 i x hi).1
  ·simp only [List.getElem?_map, Option.map_eq_some_iff] at hi
   obtain ⟨x, hx, rfl⟩ := hi
   obtain ⟨_, c, hc1, hc2, hc3⟩ := h2 i x hx
   obtain ⟨_, hc4, hc5⟩ := World.cells?_some hc1
   refine ⟨hf x, a, rfl, fun j T hT => ⟨foot_nil _, ?_⟩⟩
   obtain ⟨v, hv1, hv2, hv3⟩ := hc3 j T hT
   have hj : j < sz := by rw [← hf x]; exact (List.getElem?_eq_some_iff.1 hT).1
   exact ⟨v, by rw [hc5 j hj]; exact hv1, hv2, hv3⟩
theorem arg_one {α : Type} {t : TypeId} {T : α → Ty} {ok : α → Prop} (hr : Reads t (fun x => [T x]) ok) {H : Type} {enc : TypeId × Value → H} {W : World} {v : Value} {d : DataW H} {ps : List MemPlace}
  (h1 : v.oneCell' = true) (h : DataW.Trod enc Tryd.prog W 0 (fun _ => true) true t v d ps) (hw : ∀ n ∈ d.weights Tryd.prog t, n ≤ reachBytes) : ∃ x, ok x ∧ (T x).holds (foot []) W v := by
 obtain ⟨fuel, hf⟩ := h
 have hc : v.cells = #[v] := by cases v <;> simp_all [Value.cells, Value.oneCell']
 rw [hc] at hf
 obtain ⟨x, hx, hx2⟩ := hr hf hw
 obtain ⟨u, hu, _, hv⟩ := hx2.2 0 (T x) rfl
 simp at hu; subst hu
 exact ⟨x, hx, hv⟩
theorem weights_cons {H : Type} {t : TypeId} {ts : List TypeId} {d : DataW H} {ds : List (DataW H)} (h : (DataW.weightsEach Tryd.prog (t :: ts) (d :: ds)).all (· ≤ reachBytes) = true) :
  (∀ n ∈ d.weights Tryd.prog t, n ≤ reachBytes) ∧ (DataW.weightsEach Tryd.prog ts ds).all (· ≤ reachBytes) = true := by
 simp only [DataW.weightsEach, List.all_append, Bool.and_eq_true] at h
 exact ⟨fun n hn => by simpa using List.all_eq_true.1 h.1 n hn, h.2⟩
theorem laid_out : laidOutB Tryd.prog = true := by kernel_rfl
theorem arg_stays {H : Type} {enc : TypeId × Value → H} {W W' : World} {t : TypeId} {v : Value} {d : DataW H} {ps : List MemPlace} (hr : Tryd.prog.readableRec t = true) (ht : t < Tryd.prog.types.size) (hl : Le (foot ([] ++ [])) W (foot ([] ++ [])) W')
  (h : DataW.Trod enc Tryd.prog W 0 (fun _ => true) true t v d ps) (sp : Nat → Bool) (hs : ∀ p ∈ ps, sp p.block = true) (hlt : ∀ p ∈ ps, p.block < W.heap.size) : DataW.Trod enc Tryd.prog W' 0 sp true t v d ps :=
 WideElems.Trod_stays laid_out hr ht h (fun p hp => by
  have h1 := (hl.block p.block (hlt p hp) (foot_nil _)).2
  cases p with
  | cell b off => exact World.cell?_of_block (a := ⟨b, off, none⟩) h1
  | map b => exact h1) hs
end Go.Proofs.YtocfnpnnbmicmaaDoor.Tc
end
section
set_option maxRecDepth 100000
namespace Go.Proofs.YtocfnpnnbmicmaaDoor.Tc
open Go Go.ChangeShapes Go.WideShapes Go.ChangeAt Go.RowKit
theorem ownK : ownKnob Tryd.prog.godebug = none := by kernel_rfl
def tabCell (n : Nat) : Obj → Obj
 | .cells _ t frozen => .cells #[.slice (some ⟨n, 0, none⟩) 37 37] t frozen
 | o => o
noncomputable def baseWorld (os : Os) : World := World.holding Tryd.prog os ⟨#[], #[], []⟩
noncomputable def tabWorld (os : Os) : World :=
 { baseWorld os with heap := ((baseWorld os).heap.modify 0 (tabCell (baseWorld os).heap.size)).push (.cells (tableL.map opCells).flatten.toArray 113 (0, 0)) }
theorem tab_met (os : Os) (args : Array Value) : laidMet Tryd.prog [("fulling/machine.table", Rows.laid_fulling_machine_table)] ((tabWorld os).forCall (fun _ _ => 0) ⟨#[], args, []⟩).memory :=
 laidMet_of_run' 8 (by kernel_rfl) (by kernel_rfl)
end Go.Proofs.YtocfnpnnbmicmaaDoor.Tc
end
