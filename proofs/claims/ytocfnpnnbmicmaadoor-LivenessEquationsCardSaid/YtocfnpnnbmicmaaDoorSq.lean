/- Shorter words for the printed derivations. -/
import Derived.Test.YtocfnpnnbmicmaaDoorTypes
namespace Go.Proofs.YtocfnpnnbmicmaaDoor.Tc
open Go
abbrev fA_ := @does_fieldAddrP
abbrev lB_ := @does_loadB1
abbrev lA := @does_loadBA
abbrev iR := @does_indexR
abbrev ix := @does_index
abbrev lR := @does_loadR1
abbrev lq_ := @does_load1
abbrev cq_ := @does_call0
abbrev aS := @does_assign
abbrev pT := @does_pick_t
abbrev pF := @does_pick_f
abbrev lN := @does_len
abbrev sB := @doesO_storeB
abbrev sR := @doesO_storeR
abbrev oA := @doesO_alloc
abbrev bS := @does_buildSlice
abbrev oP := @doesO_append
abbrev oq_ := @doesO_call0
abbrev oB := @doesO_box
abbrev zQ := @okL_stepU
abbrev kB := @okC_block
abbrev zP := @okL_split
abbrev kR := @okC_region
abbrev xN := @okX_next
abbrev kS := @okC_seq
abbrev zN := @okL_nil
abbrev kK := @okC_skip
abbrev xB := @okX_block_normal
abbrev xR := @okX_then_ret
abbrev kT := @okC_ret
abbrev xI := @okX_items
abbrev pA := @part_agg
abbrev pq_ := @part_one
abbrev xq_ := @okX_ret1
abbrev xE := @okX_again_exit
abbrev xT := @okX_then_exit
abbrev kE := @okC_exit
abbrev xH := @okX_block_hit
/- what the facts of the program's types are called here -/
abbrev u_2 := @Tryd.underlying2
abbrev u_3 := @Tryd.underlying3
abbrev u_4 := @Tryd.underlying4
abbrev u_22 := @Tryd.underlying22
abbrev u_25 := @Tryd.underlying25
abbrev u_27 := @Tryd.underlying27
abbrev u_31 := @Tryd.underlying31
abbrev u_38 := @Tryd.underlying38
abbrev u_41 := @Tryd.underlying41
abbrev u_43 := @Tryd.underlying43
abbrev u_46 := @Tryd.underlying46
abbrev u_48 := @Tryd.underlying48
abbrev u_53 := @Tryd.underlying53
abbrev u_56 := @Tryd.underlying56
abbrev u_63 := @Tryd.underlying63
abbrev u_64 := @Tryd.underlying64
abbrev u_66 := @Tryd.underlying66
abbrev u_72 := @Tryd.underlying72
abbrev u_76 := @Tryd.underlying76
abbrev u_79 := @Tryd.underlying79
abbrev u_85 := @Tryd.underlying85
abbrev u_89 := @Tryd.underlying89
abbrev u_93 := @Tryd.underlying93
abbrev u_103 := @Tryd.underlying103
abbrev u_113 := @Tryd.underlying113
abbrev u_123 := @Tryd.underlying123
abbrev u_125 := @Tryd.underlying125
abbrev u_127 := @Tryd.underlying127
abbrev u_132 := @Tryd.underlying132
abbrev u_135 := @Tryd.underlying135
abbrev u_136 := @Tryd.underlying136
abbrev u_137 := @Tryd.underlying137
abbrev u_138 := @Tryd.underlying138
abbrev u_154 := @Tryd.underlying154
abbrev u_155 := @Tryd.underlying155
abbrev u_156 := @Tryd.underlying156
abbrev u_162 := @Tryd.underlying162
abbrev z_2 := @Tryd.sizeOf2
abbrev z_3 := @Tryd.sizeOf3
abbrev z_4 := @Tryd.sizeOf4
abbrev z_9 := @Tryd.sizeOf9
abbrev z_22 := @Tryd.sizeOf22
abbrev z_25 := @Tryd.sizeOf25
abbrev z_27 := @Tryd.sizeOf27
abbrev z_31 := @Tryd.sizeOf31
abbrev z_41 := @Tryd.sizeOf41
abbrev z_43 := @Tryd.sizeOf43
abbrev z_46 := @Tryd.sizeOf46
abbrev z_48 := @Tryd.sizeOf48
abbrev z_53 := @Tryd.sizeOf53
abbrev z_63 := @Tryd.sizeOf63
abbrev z_64 := @Tryd.sizeOf64
abbrev z_66 := @Tryd.sizeOf66
abbrev z_72 := @Tryd.sizeOf72
abbrev z_76 := @Tryd.sizeOf76
abbrev z_79 := @Tryd.sizeOf79
abbrev z_92 := @Tryd.sizeOf92
abbrev z_93 := @Tryd.sizeOf93
abbrev z_113 := @Tryd.sizeOf113
abbrev z_125 := @Tryd.sizeOf125
abbrev z_127 := @Tryd.sizeOf127
abbrev z_132 := @Tryd.sizeOf132
abbrev z_136 := @Tryd.sizeOf136
abbrev z_137 := @Tryd.sizeOf137
abbrev z_154 := @Tryd.sizeOf154
abbrev a_2 := @Tryd.isAgg2
abbrev a_3 := @Tryd.isAgg3
abbrev a_4 := @Tryd.isAgg4
abbrev a_9 := @Tryd.isAgg9
abbrev a_22 := @Tryd.isAgg22
abbrev a_25 := @Tryd.isAgg25
abbrev a_27 := @Tryd.isAgg27
abbrev a_31 := @Tryd.isAgg31
abbrev a_41 := @Tryd.isAgg41
abbrev a_43 := @Tryd.isAgg43
abbrev a_46 := @Tryd.isAgg46
abbrev a_48 := @Tryd.isAgg48
abbrev a_53 := @Tryd.isAgg53
abbrev a_63 := @Tryd.isAgg63
abbrev a_64 := @Tryd.isAgg64
abbrev a_66 := @Tryd.isAgg66
abbrev a_72 := @Tryd.isAgg72
abbrev a_76 := @Tryd.isAgg76
abbrev a_79 := @Tryd.isAgg79
abbrev a_92 := @Tryd.isAgg92
abbrev a_93 := @Tryd.isAgg93
abbrev a_113 := @Tryd.isAgg113
abbrev a_125 := @Tryd.isAgg125
abbrev a_127 := @Tryd.isAgg127
abbrev a_132 := @Tryd.isAgg132
abbrev a_136 := @Tryd.isAgg136
abbrev a_137 := @Tryd.isAgg137
abbrev a_162 := @Tryd.isAgg162
abbrev v_22 := @Tryd.zeroValue22
abbrev v_27 := @Tryd.zeroValue27
abbrev v_43 := @Tryd.zeroValue43
abbrev v_46 := @Tryd.zeroValue46
abbrev v_48 := @Tryd.zeroValue48
abbrev v_66 := @Tryd.zeroValue66
abbrev v_72 := @Tryd.zeroValue72
abbrev v_76 := @Tryd.zeroValue76
abbrev v_103 := @Tryd.zeroValue103
abbrev v_113 := @Tryd.zeroValue113
abbrev v_123 := @Tryd.zeroValue123
abbrev v_127 := @Tryd.zeroValue127
abbrev v_135 := @Tryd.zeroValue135
abbrev v_136 := @Tryd.zeroValue136
abbrev v_154 := @Tryd.zeroValue154
abbrev v_155 := @Tryd.zeroValue155
abbrev k_3 := @Tryd.call3
abbrev k_11 := @Tryd.call11
abbrev k_18 := @Tryd.call18
abbrev k_22 := @Tryd.call22
abbrev k_23 := @Tryd.call23
abbrev k_24 := @Tryd.call24
abbrev k_25 := @Tryd.call25
abbrev k_26 := @Tryd.call26
abbrev k_27 := @Tryd.call27
abbrev k_28 := @Tryd.call28
abbrev k_29 := @Tryd.call29
abbrev k_31 := @Tryd.call31
abbrev k_32 := @Tryd.call32
abbrev k_33 := @Tryd.call33
abbrev k_34 := @Tryd.call34
abbrev k_35 := @Tryd.call35
abbrev k_36 := @Tryd.call36
abbrev k_37 := @Tryd.call37
abbrev k_38 := @Tryd.call38
abbrev k_40 := @Tryd.call40
abbrev k_45 := @Tryd.call45
abbrev k_46 := @Tryd.call46
abbrev k_47 := @Tryd.call47
abbrev k_48 := @Tryd.call48
abbrev k_49 := @Tryd.call49
abbrev k_50 := @Tryd.call50
abbrev k_51 := @Tryd.call51
abbrev k_52 := @Tryd.call52
abbrev k_53 := @Tryd.call53
abbrev k_54 := @Tryd.call54
abbrev k_56 := @Tryd.call56
abbrev k_57 := @Tryd.call57
abbrev k_58 := @Tryd.call58
abbrev k_59 := @Tryd.call59
abbrev k_60 := @Tryd.call60
abbrev k_61 := @Tryd.call61
abbrev k_62 := @Tryd.call62
abbrev k_63 := @Tryd.call63
abbrev k_64 := @Tryd.call64
abbrev k_65 := @Tryd.call65
abbrev k_66 := @Tryd.call66
abbrev k_67 := @Tryd.call67
abbrev k_68 := @Tryd.call68
abbrev k_69 := @Tryd.call69
abbrev k_70 := @Tryd.call70
abbrev k_71 := @Tryd.call71
abbrev k_72 := @Tryd.call72
abbrev k_73 := @Tryd.call73
abbrev k_74 := @Tryd.call74
abbrev k_75 := @Tryd.call75
abbrev k_76 := @Tryd.call76
abbrev k_77 := @Tryd.call77
abbrev k_78 := @Tryd.call78
abbrev k_79 := @Tryd.call79
abbrev k_80 := @Tryd.call80
abbrev k_81 := @Tryd.call81
abbrev k_82 := @Tryd.call82
abbrev k_85 := @Tryd.call85
abbrev k_86 := @Tryd.call86
abbrev k_87 := @Tryd.call87
abbrev k_88 := @Tryd.call88
abbrev k_89 := @Tryd.call89
abbrev k_90 := @Tryd.call90
abbrev k_91 := @Tryd.call91
abbrev k_92 := @Tryd.call92
abbrev k_93 := @Tryd.call93
abbrev k_94 := @Tryd.call94
abbrev k_95 := @Tryd.call95
abbrev k_96 := @Tryd.call96
abbrev k_97 := @Tryd.call97
abbrev k_98 := @Tryd.call98
abbrev k_99 := @Tryd.call99
abbrev k_100 := @Tryd.call100
abbrev k_101 := @Tryd.call101
abbrev k_102 := @Tryd.call102
abbrev k_103 := @Tryd.call103
abbrev k_104 := @Tryd.call104
abbrev k_105 := @Tryd.call105
abbrev k_106 := @Tryd.call106
abbrev k_110 := @Tryd.call110
abbrev k_111 := @Tryd.call111
abbrev k_112 := @Tryd.call112
abbrev k_113 := @Tryd.call113
abbrev k_114 := @Tryd.call114
abbrev k_115 := @Tryd.call115
abbrev k_116 := @Tryd.call116
abbrev k_117 := @Tryd.call117
abbrev k_118 := @Tryd.call118
abbrev k_119 := @Tryd.call119
abbrev k_120 := @Tryd.call120
abbrev k_121 := @Tryd.call121
abbrev k_122 := @Tryd.call122
abbrev k_123 := @Tryd.call123
abbrev k_124 := @Tryd.call124
abbrev k_125 := @Tryd.call125
abbrev k_126 := @Tryd.call126
abbrev k_127 := @Tryd.call127
abbrev k_128 := @Tryd.call128
abbrev k_132 := @Tryd.call132
abbrev S119 (x : Fullingref32Interpreter) : List Ty := [(tL 3 VFunc.ty x.L), (tL 1 lIs x.Cells), (tI x.Fuel), (tI x.Most), (tL 1 lI x.Out), (tI x.End.Kind), (tI x.End.Code), (tL 1 lI x.End.Out), (tI x.End.Value), (tB x.Over), (tB x.Long)]
abbrev S135 (x : RegallocAllocator) : List Ty := [(tI x.c.Params), (tI x.c.Regs), (tL 5 Block.ty x.c.Blocks), (tL 1 ls_SSI x.at_), (tL 1 lB x.spilled), (tL 2 Location.ty x.a.Locations), (tL 5 Spill.ty x.a.Spills), (tI x.a.Slots)]
abbrev S123 (x : Fullingref32Allocator) : List Ty := [(tI x.C.Params), (tI x.C.Regs), (tL 5 Block.ty x.C.Blocks), (tL 1 lB x.Spilled), (tL 5 Spill.ty x.Spills), (tL 1 lI x.Weight)]
abbrev S113 (x : OpInfo) : List Ty := [(tS x.Name), (tI x.Form), (tB x.ReadsA), (tB x.WritesA), (tB x.ReadsB), (tB x.MayTrap), (tI x.Words)]
abbrev S48 (x : VInstr) : List Ty := [(tI x.Instr.Op), (tI x.Instr.A), (tI x.Instr.B), (tI x.Instr.C), (tI x.Instr.N), (tL 1 lI x.Args)]
abbrev S43 (x : Block) : List Ty := [(tL 6 VInstr.ty x.Instrs), (tI x.End), (tI x.Reg), (tI x.Target), (tI x.Else)]
abbrev S76 (x : Spill) : List Ty := [(tI x.Reg), (tI x.Reason), (tI x.Block), (tI x.Index), (tL 1 lI x.Others)]
abbrev S66 (x : Allocation) : List Ty := [(tL 2 Location.ty x.Locations), (tL 5 Spill.ty x.Spills), (tI x.Slots)]
abbrev S56 (x : Outcome) : List Ty := [(tI x.Kind), (tI x.Code), (tL 1 lI x.Out), (tI x.Value)]
abbrev S27 (x : VFunc) : List Ty := [(tI x.Params), (tI x.Regs), (tL 5 Block.ty x.Blocks)]
abbrev S46 (x : Instr) : List Ty := [(tI x.Op), (tI x.A), (tI x.B), (tI x.C), (tI x.N)]
section
variable {κ : Kx} {Q : Exit → Act → World → Prop} {Γ : Cx} {L : List Item} {l : List Oper} {ops : Array Oper}
theorem xm {X : Type} {I : X → Prop} {G : X → Cx} {Lf : X → List Item} (x : X) (hx : I x) (hc : Cov Γ (G x) := by repeat (first | exact cn | refine cc rfl ?_)) (hL : L = Lf x := by rfl) : OkX κ (Exit.then (Meet κ I G Lf) Q) .normal Γ L := okX_meet x hx hc hL
theorem nx {y : Code} (h : OkC κ y Q Γ L) : OkL κ ops (Exit.then (y.wp κ.P Q) Q) [] Γ L := okL_nil (okX_next h)
theorem nsr {id : Nat} {l : List Oper} {z : Code} (h : OkL κ l.toArray (Exit.then (z.wp κ.P Q) Q) l Γ L) : OkL κ ops (Exit.then ((Code.seq (.region id l.toArray false) z).wp κ.P Q) Q) [] Γ L := okL_nil (okX_next (okC_seq (okC_region h)))
theorem sr {id : Nat} {l : List Oper} {z : Code} (h : OkL κ l.toArray (Exit.then (z.wp κ.P Q) Q) l Γ L) : OkC κ (.seq (.region id l.toArray false) z) Q Γ L := okC_seq (okC_region h)
theorem drL {id : Nat} (m : Nat) (hs : Hs) (cs : List Nat) (hops : DrawOps κ l hs Γ ⟨L, L, []⟩ 0 (l.take m) hs)
    (h : Chain κ l hs Γ ⟨L, L, []⟩ (fun Γc L' => OkL κ l.toArray Q (l.drop m) (zipH (Γc ++ Γ) hs) L') cs.length cs [] L)
    (hm : κ.P.follows .mixedOrders = true := by exact mixed) (hml : hs.length = m := by rfl) (hd : dstOk hs l = true := by rfl) (hnd : nodupB ((l.take m).filterMap (·.dst)) = true := by kernel_rfl) (hΓ : Γ.all (fun p => !((l.take m).filterMap (·.dst)).contains p.1) = true := by rfl) (hn : ((l.take m).filterMap (·.dst)).all (fun d => Nat.blt d κ.n) = true := by kernel_rfl)
    (hcs : noneAt hs 0 = cs := by rfl) (hcn : nodupB cs = true := by rfl) (hcm : cs.all (fun p => Nat.blt p m) = true := by rfl)
    (hfwd : (List.range m).all (fun i => ((l[i]?).map (fun o => o.after.toList.all (fun e => !Region.binds .any e || Nat.blt e.on i))).getD true) = true := by kernel_rfl)
    (hwait : m = l.length ∨ (Region.sinkB .any l.toArray m = true ∧ Region.chainB .any l.toArray m = true) := by first | exact .inl rfl | exact .inr ⟨by kernel_rfl, by kernel_rfl⟩) (hle : Nat.ble m l.length = true := by kernel_rfl)
    (htail : Region.seqB .any l.toArray (l.length - m) m (Array.replicate m true ++ Array.replicate (l.length - m) false) = true := by kernel_rfl) : OkC κ (.region id l.toArray true) Q Γ L :=
  okC_draw m hs ⟨L, L, []⟩ cs hm hml hd hnd hΓ hn hcs hcn hcm (fun _ h => h) (fun _ h => h) rfl hfwd hwait hle htail hops h
theorem drE {id : Nat} (m : Nat) (hs : Hs) (late : List Item) (qs : List Nat) (cs : List Nat) (hlate : ∀ it, it ∈ late → it ∈ L) (hops : DrawOps κ l hs Γ ⟨late, L, qs⟩ 0 (l.take m) hs)
    (h : Chain κ l hs Γ ⟨late, L, qs⟩ (fun Γc L' => OkL κ l.toArray Q (l.drop m) (zipH (Γc ++ Γ) hs) L') cs.length cs [] L)
    (hm : κ.P.follows .mixedOrders = true := by exact mixed) (hml : hs.length = m := by rfl) (hd : dstOk hs l = true := by rfl) (hnd : nodupB ((l.take m).filterMap (·.dst)) = true := by kernel_rfl) (hΓ : Γ.all (fun p => !((l.take m).filterMap (·.dst)).contains p.1) = true := by rfl) (hn : ((l.take m).filterMap (·.dst)).all (fun d => Nat.blt d κ.n) = true := by kernel_rfl)
    (hcs : noneAt hs 0 = cs := by rfl) (hcn : nodupB cs = true := by rfl) (hcm : cs.all (fun p => Nat.blt p m) = true := by rfl) (hqs : qs.all (fun q => cs.contains q) = true := by rfl)
    (hfwd : (List.range m).all (fun i => ((l[i]?).map (fun o => o.after.toList.all (fun e => !Region.binds .any e || Nat.blt e.on i))).getD true) = true := by kernel_rfl)
    (hwait : m = l.length ∨ (Region.sinkB .any l.toArray m = true ∧ Region.chainB .any l.toArray m = true) := by first | exact .inl rfl | exact .inr ⟨by kernel_rfl, by kernel_rfl⟩) (hle : Nat.ble m l.length = true := by kernel_rfl)
    (htail : Region.seqB .any l.toArray (l.length - m) m (Array.replicate m true ++ Array.replicate (l.length - m) false) = true := by kernel_rfl) : OkC κ (.region id l.toArray true) Q Γ L :=
  okC_draw m hs ⟨late, L, qs⟩ cs hm hml hd hnd hΓ hn hcs hcn hcm hlate (fun _ h => h) hqs hfwd hwait hle htail hops h
theorem zS {d : Nat} {op : Op} {ty : TypeId} {pos : String} {after : Array Edge} {T : Ty} {rest : List Oper} (hD : Does κ ⟨some d, op, ty, pos, after, none⟩ Γ L T) (h : OkL κ ops Q rest ((d, T) :: Γ) L) (hn : Nat.blt d κ.n = true := by rfl) : OkL κ ops Q (⟨some d, op, ty, pos, after, none⟩ :: rest) Γ L := okL_step d T rfl hn hD h
theorem zM {d : Nat} {x : Operand} {ty : TypeId} {pos : String} {after : Array Edge} {T : Ty} {rest : List Oper} (hx : opTy Γ x = some T) (h : OkL κ ops Q rest ((d, T) :: Γ) L) (hn : Nat.blt d κ.n = true := by rfl) : OkL κ ops Q (⟨some d, .move x, ty, pos, after, none⟩ :: rest) Γ L := okL_step d T rfl hn (does_move hx) h
theorem zO {d : Nat} {op : Op} {ty : TypeId} {pos : String} {after : Array Edge} {rest : List Oper} (h : DoesO κ ⟨some d, op, ty, pos, after, none⟩ Γ L (fun T L' => OkL κ ops Q rest ((d, T) :: Γ) L')) (hn : Nat.blt d κ.n = true := by rfl) : OkL κ ops Q (⟨some d, op, ty, pos, after, none⟩ :: rest) Γ L := okL_stepO d rfl hn h
theorem zG {d dj j : Nat} {want b : Bool} {op : Op} {ty : TypeId} {pos : String} {after : Array Edge} {T : Ty} {rest : List Oper} (hw : b = want) (hD : Does κ ⟨some d, op, ty, pos, after, some (j, want)⟩ Γ L T) (h : OkL κ ops Q rest ((d, T) :: Γ) L) (hj : (ops[j]?).bind (·.dst) = some dj := by rfl) (hb : Γ.look dj = some (tB b) := by rfl) (hn : Nat.blt d κ.n = true := by rfl) : OkL κ ops Q (⟨some d, op, ty, pos, after, some (j, want)⟩ :: rest) Γ L := okL_guard d T dj b hj hb hw rfl hn hD h
theorem zK {d dj j : Nat} {want b : Bool} {op : Op} {ty : TypeId} {pos : String} {after : Array Edge} {rest : List Oper} (hw : b = !want) (h : OkL κ ops Q rest ((d, Ty.val undef) :: Γ) L) (hj : (ops[j]?).bind (·.dst) = some dj := by rfl) (hb : Γ.look dj = some (tB b) := by rfl) (hn : Nat.blt d κ.n = true := by rfl) : OkL κ ops Q (⟨some d, op, ty, pos, after, some (j, want)⟩ :: rest) Γ L := okL_skip d dj b hj hb hw rfl hn h
theorem zU {d dj j : Nat} {want : Bool} {op : Op} {ty : TypeId} {pos : String} {after : Array Edge} {rest : List Oper} (h : OkL κ ops Q rest ((d, Ty.val undef) :: Γ) L) (hj : (ops[j]?).bind (·.dst) = some dj := by rfl) (hb : Γ.look dj = some (Ty.val undef) := by rfl) (hn : Nat.blt d κ.n = true := by rfl) : OkL κ ops Q (⟨some d, op, ty, pos, after, some (j, want)⟩ :: rest) Γ L := okL_skipU d dj hj hb rfl hn h
theorem zT {z : Bool} (n d : Nat) (h : OkL κ ops (Exit.then (Meet κ (fun x : Bool => x = z) (fun x => (d, tB x) :: Γ) (fun _ => L)) Q) (l.take n) Γ L) (hy : OkL κ ops Q (l.drop n) ((d, tB z) :: Γ) L) : OkL κ ops Q l Γ L := okL_meet n _ _ _ _ rfl h (fun x hx => by subst hx; exact hy)
theorem zV {z : Bool} (n d : Nat) (h : OkL κ ops (Exit.then (Meet κ (fun x : Bool => z = x) (fun x => (d, tB x) :: Γ) (fun _ => L)) Q) (l.take n) Γ L) (hy : OkL κ ops Q (l.drop n) ((d, tB z) :: Γ) L) : OkL κ ops Q l Γ L := okL_meet n _ _ _ _ rfl h (fun x hx => by subst hx; exact hy)
theorem zC {c : Operand} {x y : Code} {b : Bool} (ht : b = true → OkC κ x Q Γ L) (hf : b = false → OkC κ y Q Γ L) (hb : opTy Γ c = some (tB b) := by rfl) : OkC κ (.cond c x y) Q Γ L := okC_cond hb ht hf
theorem cva {Γ Γ' : Cx} (h : Cov Γ Γ' := by repeat (first | exact cn | refine cc rfl ?_)) : Cov Γ Γ' := h
theorem xa {X : Type} {I : Nat → X → Prop} {G : X → Cx} {Lf : X → List Item} {k : Nat} (x : X) (hx : I k x) (hc : Cov Γ (G x) := by repeat (first | exact cn | refine cc rfl ?_)) (hL : L = Lf x := by rfl) : OkX κ (Exit.then (Again κ I G Lf (k + 1)) Q) .normal Γ L := okX_again k (Nat.lt_succ_self k) x hx hc hL
section
variable {hs : Hs} {Z : Two} {k : Nat} {os : List Oper} {r : Hs} {T : Ty} {d : Nat} {op : Op} {ty : TypeId} {pos : String} {after : Array Edge} {x : Operand} {gd : Option (Nat × Bool)}
theorem dm (hx : opTy (ctxOf hs Γ after.toList) x = some T) (hr : DrawOps κ l hs Γ Z (k + 1) os r) : DrawOps κ l hs Γ Z k (⟨some d, .move x, ty, pos, after, none⟩ :: os) (some (d, T) :: r) := dc (p := (d, T)) (draw_plain rfl (does_move hx)) hr
theorem dp (h : Does κ ⟨some d, op, ty, pos, after, none⟩ (ctxOf hs Γ after.toList) Z.late T) (hr : DrawOps κ l hs Γ Z (k + 1) os r) : DrawOps κ l hs Γ Z k (⟨some d, op, ty, pos, after, none⟩ :: os) (some (d, T) :: r) := dc (p := (d, T)) (draw_plain rfl h) hr
theorem dq (h : Does κ ⟨some d, op, ty, pos, after, none⟩ (ctxOf hs Γ after.toList) Z.early T) (hr : DrawOps κ l hs Γ Z (k + 1) os r) (he : isEarly l Z k = true := by kernel_rfl) : DrawOps κ l hs Γ Z k (⟨some d, op, ty, pos, after, none⟩ :: os) (some (d, T) :: r) := de (p := (d, T)) he (draw_plain rfl h) hr
theorem dn1 (h : DrawOp κ l hs Γ Z.late ⟨some d, op, ty, pos, after, gd⟩ T) (hr : DrawOps κ l hs Γ Z (k + 1) os r) : DrawOps κ l hs Γ Z k (⟨some d, op, ty, pos, after, gd⟩ :: os) (some (d, T) :: r) := dc (p := (d, T)) h hr
theorem dn2 (h : DrawOp κ l hs Γ Z.early ⟨some d, op, ty, pos, after, gd⟩ T) (hr : DrawOps κ l hs Γ Z (k + 1) os r) (he : isEarly l Z k = true := by kernel_rfl) : DrawOps κ l hs Γ Z k (⟨some d, op, ty, pos, after, gd⟩ :: os) (some (d, T) :: r) := de (p := (d, T)) he h hr
end
end
end Go.Proofs.YtocfnpnnbmicmaaDoor.Tc
