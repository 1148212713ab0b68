/- What is so of the program's head and of the program alone, for the rows' closed facts: each word of the head is read off the literal's own letters. -/
import Derived.Test.YtocfnpnnbmicmaaDoorRows
import Derived.Test.YtocfnpnnbmicmaaDoorChecked
import Derived.KernelRfl
import Derived.JoinedOf
set_option maxRecDepth 100000
namespace Go.Proofs.YtocfnpnnbmicmaaDoor.Closed
open Go
theorem lifts_of {P : Program} {b : Bool} (cs : List Char) (h : P.initOrder = String.ofList cs) (hb : (let ws := behindMainWord (wordsSigns cs); (ws.head? == some "carried".toList && ws.take 3 != ["carried".toList, "gc".toList, "cut".toList]) || (let r := stripLifts liftWords ws; if r.2.head? == some "cut".toList then r.1 else []).contains "finals") = b) : P.liftsFinal = b := by
  subst hb
  unfold Program.liftsFinal Program.headLifts
  rw [h, String.toList_ofList]
theorem make_of {P : Program} {b : Option Make} (cs : List Char) (h : P.initOrder = String.ofList cs) (hb : (let hl := (let r := stripLifts liftWords (behindMainWord (wordsSigns cs)); if r.2.head? == some "cut".toList then r.1 else []);
  match behindMainWord (wordsSigns cs) with
  | c :: rest => if c == "gc".toList || c == "spec".toList then some .whole else if c == "cut".toList || (c == "finals".toList && rest.head? == some "cut".toList) then some .cut else if c == "carried".toList then some .carried else if hl.isEmpty then none else some (.lifted hl)
  | [] => none) = b) : P.make = b := by
  subst hb
  unfold Program.make Program.headLifts
  rw [h, String.toList_ofList]
  rfl
theorem enter_of {P : Program} (cs : List Char) (h : P.initOrder = String.ofList cs) (hw : (behindMainWord (wordsSigns cs) == "cut".toList :: (behindMainWord (wordsSigns cs)).tail) = true) (hs : (stripLifts liftWords ("cut".toList :: (behindMainWord (wordsSigns cs)).tail) == ([], "cut".toList :: (behindMainWord (wordsSigns cs)).tail)) = true) (h1 : P.laysLater = false) (h2 : P.bearsReflect = false) (h3 : P.doorFits [] = true) : P.mayEnter = true := by
  unfold Program.mayEnter
  generalize (behindMainWord (wordsSigns cs)).tail = rest at hw hs
  rw [h, String.toList_ofList, eq_of_beq hw]
  have hs' := eq_of_beq hs
  simp only [hs', h1, h2, h3]
  simp
theorem main_of {P : Program} {b : Option (Bool × List Char)} (cs : List Char) (h : P.initOrder = String.ofList cs) (hb : (match wordsSigns cs with
  | h :: s :: _ => if !isSumSigns s then none else if h == "harness".toList then some (true, s) else if h == "ownmain".toList then some (false, s) else none
  | _ => none) = b) : P.mainIs = b := by
  subst hb
  unfold Program.mainIs
  rw [h, String.toList_ofList]
  rfl
theorem laidOut : laidOutB Tryd.pinned.checked.prog = true := by kernel_rfl
theorem maps : mapsRowed Tryd.pinned.checked.prog = true := by kernel_rfl
theorem stops : (Tryd.pinned.checked.prog.stops == []) = true := by kernel_rfl
theorem knobs : (Tryd.pinned.checked.prog.stopKnobs == []) = true := by kernel_rfl
theorem keys : Tryd.pinned.checked.prog.plainKeys = true := by kernel_rfl
theorem heard : Tryd.pinned.checked.prog.stopsHeard = true := by kernel_rfl
theorem lifts : Tryd.pinned.checked.prog.liftsFinal = false := lifts_of _ rfl (by kernel_rfl)
theorem make : Tryd.pinned.checked.prog.make = some .cut := make_of _ rfl (by kernel_rfl)
theorem later : Tryd.pinned.checked.prog.laysLater = false := by kernel_rfl
theorem reflect : Tryd.pinned.checked.prog.bearsReflect = false := by kernel_rfl
theorem door : Tryd.pinned.checked.prog.doorFits [] = true := by kernel_rfl
theorem enter : Tryd.pinned.checked.prog.mayEnter = true := enter_of _ rfl (by kernel_rfl) (by kernel_rfl) later reflect door
theorem band {a b : Bool} (ha : a = true) (hb : b = true) : (a && b) = true := by rw [ha, hb]; rfl
theorem beqT {α : Type} [BEq α] [LawfulBEq α] {a b : α} (h : a = b) : (a == b) = true := by subst h; exact beq_self_eq_true a
/-- A row's closed facts: what hangs on the row is asked one by one. -/
theorem closed_of {f : FuncId} {fn : Func} {s : ChangeSpec} {c : OpenClaim} (k0 : c.wf (OpenSpec.ofChange s) = true) (k3 : fn.params.all (Tryd.pinned.checked.prog.readableRec ·) = true) (k4 : namedTie Tryd.pinned.checked.prog c.named s.vars = true)
    (k5 : (c.stops == []) = true) (k7 : (c.knobs == []) = true) (k9 : (c.inPlace == Tryd.pinned.checked.prog.inPlace f) = true) (k10 : (c.unfollowed == Tryd.pinned.checked.prog.unfollowed f) = true) (k11 : (c.recurses == Tryd.pinned.checked.prog.recurses f) = true) (k12 : (c.named == Tryd.pinned.checked.prog.varsNamed f) = true)
    (k13 : (c.maps == (fn.params.toList ++ s.plain.varTypes Tryd.pinned.checked.prog).any (Tryd.pinned.checked.prog.mapsRec ·)) = true) (k14 : (c.ifaces == (fn.params.toList ++ s.plain.varTypes Tryd.pinned.checked.prog).any (Tryd.pinned.checked.prog.ifacesRec ·)) = true) (k15 : (c.mapsOut == Tryd.pinned.checked.prog.mapsAmong fn.resultTypes.toList) = true)
    (k16 : (c.loops == (fn.params.toList ++ s.plain.varTypes Tryd.pinned.checked.prog).any (Tryd.pinned.checked.prog.loopsFrom ·)) = true) (k17 : (c.wideKeys == (fn.params.toList ++ s.plain.varTypes Tryd.pinned.checked.prog ++ fn.resultTypes.toList).any (Tryd.pinned.checked.prog.wideKeysFrom ·)) = true)
    (k18 : s.vars.all (Tryd.pinned.checked.prog.varReadable ·) = true) (k19 : fn.resultTypes.all (fun t => Tryd.pinned.checked.prog.readableRec t && decide (t < Tryd.pinned.checked.prog.types.size)) = true) (k20 : (c.ifacesOut == fn.resultTypes.toList.any (Tryd.pinned.checked.prog.ifacesRec ·)) = true)
    (k21 : (c.loopsOut == fn.resultTypes.toList.any (Tryd.pinned.checked.prog.loopsFrom ·)) = true) (k22 : c.plainKeys = true) (k23 : c.shortTexts.isNone = true) (k26 : c.lifted = false) (k27 : c.make = .cut)
    (k28 : (c.kinds == (if c.domain.isEmpty then [] else fn.params.toList.map fun t => match Tryd.pinned.checked.prog.underlying t with | some (.int k) => some k | _ => none)) = true) (k29 : (c.pinned == c.pinnedBy) = true)
    (k30 : (c.veiled == (fn.params.toList ++ s.plain.varTypes Tryd.pinned.checked.prog ++ fn.resultTypes.toList).any (Tryd.pinned.checked.prog.veiledRec ·)) = true) (k31 : c.veiledFits Tryd.pinned.checked.prog fn.params.toList (fn.params.toList ++ s.plain.varTypes Tryd.pinned.checked.prog ++ fn.resultTypes.toList) = true) :
    joinedFacts Tryd.pinned.checked.prog f fn s c = true := by
  have h22 : (c.plainKeys == Tryd.pinned.checked.prog.plainKeys) = true := by rw [keys, k22]; rfl
  have h26 : (c.lifted == Tryd.pinned.checked.prog.liftsFinal) = true := by rw [lifts, k26]; rfl
  have h27 : (Tryd.pinned.checked.prog.make == some c.make) = true := by rw [make, k27]; rfl
  exact band (band (band (band (band (band (band (band (band (band (band (band (band (band (band (band (band (band (band (band (band (band (band (band (band (band (band (band (band (band (band k0 laidOut) maps) k3) k4) k5) stops) k7) knobs) k9) k10) k11) k12) k13) k14) k15) k16) k17) k18) k19) k20) k21) h22) k23) heard) enter) h26) h27) k28) k29) k30) k31
end Go.Proofs.YtocfnpnnbmicmaaDoor.Closed
