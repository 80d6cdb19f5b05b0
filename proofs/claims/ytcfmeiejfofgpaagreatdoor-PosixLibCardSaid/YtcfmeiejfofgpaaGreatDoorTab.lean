import Derived.Test.YtcfmeiejfofgpaaGreatDoorAbX
import Derived.Test.YtcfmeiejfofgpaaGreatDoorRows
namespace Go.Proofs.YtcfmeiejfofgpaaGreatDoor
open Go.Ab Go.Extern
set_option maxRecDepth 100000
noncomputable def T : List (FuncId × XF) := [(53, .valueOf), (54, .vtype), (55, .isNil), (71, .typeOf), (73, .velem), (74, .vset), (79, .fcnt), (86, .pure BytealgIndex.index), (89, .fidx), (107, .pure (ReflectliteType.abiMethod fun t => do pure (.int .u8 (← Rtype.kind t)))), (117, .pure (ReflectliteType.relation "AssignableTo" ReflectliteType.assignableTo)), (118, .pure (ReflectliteType.method fun t => do Rtype.noPackHeld "Comparable" t; pure (.bool (← typeInfo t).comparable))), (119, .pure (ReflectliteType.method ReflectliteType.elem)), (120, .pure (ReflectliteType.relation "Implements" ReflectliteType.implements_))]
theorem ext_ok [Sg] {W : World} : ExtOk Tryz.prog W 5 (extOf Tryz.prog 5 T) := by
  refine extOk_of fun f x h args w => ?_
  simp only [T, List.lookup] at h
  repeat' split at h
  all_goals first | (cases h; done) | skip
  all_goals (rename_i e; rw [eq_of_beq e]; cases h)
  · exact run_callFunc_extern Tryz.func53 (by kernel_rfl) (by kernel_rfl) (by kernel_rfl) (by kernel_rfl) args w
  · exact run_callFunc_extern Tryz.func54 (by kernel_rfl) (by kernel_rfl) (by kernel_rfl) (by kernel_rfl) args w
  · exact run_callFunc_extern Tryz.func55 (by kernel_rfl) (by kernel_rfl) (by kernel_rfl) (by kernel_rfl) args w
  · exact run_callFunc_extern Tryz.func71 (by kernel_rfl) (by kernel_rfl) (by kernel_rfl) (by kernel_rfl) args w
  · exact run_callFunc_extern Tryz.func73 (by kernel_rfl) (by kernel_rfl) (by kernel_rfl) (by kernel_rfl) args w
  · exact run_callFunc_extern Tryz.func74 (by kernel_rfl) (by kernel_rfl) (by kernel_rfl) (by kernel_rfl) args w
  · exact run_callFunc_extern Tryz.func79 (by kernel_rfl) (by kernel_rfl) (by kernel_rfl) (by kernel_rfl) args w
  · exact run_callFunc_extern Tryz.func86 (by kernel_rfl) (by kernel_rfl) (by kernel_rfl) (by kernel_rfl) args w
  · exact run_callFunc_extern Tryz.func89 (by kernel_rfl) (by kernel_rfl) (by kernel_rfl) (by kernel_rfl) args w
  · exact run_callFunc_extern Tryz.func107 (by kernel_rfl) (by kernel_rfl) (by kernel_rfl) (by kernel_rfl) args w
  · exact run_callFunc_extern Tryz.func117 (by kernel_rfl) (by kernel_rfl) (by kernel_rfl) (by kernel_rfl) args w
  · exact run_callFunc_extern Tryz.func118 (by kernel_rfl) (by kernel_rfl) (by kernel_rfl) (by kernel_rfl) args w
  · exact run_callFunc_extern Tryz.func119 (by kernel_rfl) (by kernel_rfl) (by kernel_rfl) (by kernel_rfl) args w
  · exact run_callFunc_extern Tryz.func120 (by kernel_rfl) (by kernel_rfl) (by kernel_rfl) (by kernel_rfl) args w
theorem names_ok : NamesOk Tryz.prog := @namesOk_of noSg _ (by kernel_rfl)
theorem codes_ok : FnsOk Tryz.prog (fun _ => true) := @fnsOk_of noSg _ _ (by kernel_rfl)
theorem mixed : Tryz.prog.follows .mixedOrders = true := by kernel_rfl
noncomputable def X [Sg] : Ext := extOf Tryz.prog 5 T
end Go.Proofs.YtcfmeiejfofgpaaGreatDoor
