import Derived.Test.YtcfmeiejfofgpaaDoorAbT
import Derived.Test.YtcfmeiejfofgpaaDoorRows
namespace Go.Proofs.YtcfmeiejfofgpaaDoor
open Go.Ab Go.Extern
set_option maxRecDepth 100000
noncomputable def T : List (FuncId × XF) := [(22, .valueOf), (23, .vtype), (24, .isNil), (26, .typeOf), (28, .velem), (29, .vset),
  (44, .pure (ReflectliteType.abiMethod fun t => do pure (.int .u8 (← Rtype.kind t)))),
  (54, .pure (ReflectliteType.relation "AssignableTo" ReflectliteType.assignableTo)),
  (55, .pure (ReflectliteType.method fun t => do Rtype.noPackHeld "Comparable" t; pure (.bool (← typeInfo t).comparable))),
  (56, .pure (ReflectliteType.method ReflectliteType.elem)),
  (57, .pure (ReflectliteType.relation "Implements" ReflectliteType.implements_))]
theorem ext_ok [Sg] {W : World} : ExtOk Tryd.prog W 2 (extOf Tryd.prog 2 T) := by
  refine extOk_of fun f x h args w => ?_
  simp only [T, List.lookup] at h
  repeat' split at h
  all_goals first | (cases h; done) | skip
  all_goals (rename_i e; rw [eq_of_beq e]; cases h)
  · exact run_callFunc_extern Tryd.func22 (by kernel_rfl) (by kernel_rfl) (by kernel_rfl) (by kernel_rfl) args w
  · exact run_callFunc_extern Tryd.func23 (by kernel_rfl) (by kernel_rfl) (by kernel_rfl) (by kernel_rfl) args w
  · exact run_callFunc_extern Tryd.func24 (by kernel_rfl) (by kernel_rfl) (by kernel_rfl) (by kernel_rfl) args w
  · exact run_callFunc_extern Tryd.func26 (by kernel_rfl) (by kernel_rfl) (by kernel_rfl) (by kernel_rfl) args w
  · exact run_callFunc_extern Tryd.func28 (by kernel_rfl) (by kernel_rfl) (by kernel_rfl) (by kernel_rfl) args w
  · exact run_callFunc_extern Tryd.func29 (by kernel_rfl) (by kernel_rfl) (by kernel_rfl) (by kernel_rfl) args w
  · exact run_callFunc_extern Tryd.func44 (by kernel_rfl) (by kernel_rfl) (by kernel_rfl) (by kernel_rfl) args w
  · exact run_callFunc_extern Tryd.func54 (by kernel_rfl) (by kernel_rfl) (by kernel_rfl) (by kernel_rfl) args w
  · exact run_callFunc_extern Tryd.func55 (by kernel_rfl) (by kernel_rfl) (by kernel_rfl) (by kernel_rfl) args w
  · exact run_callFunc_extern Tryd.func56 (by kernel_rfl) (by kernel_rfl) (by kernel_rfl) (by kernel_rfl) args w
  · exact run_callFunc_extern Tryd.func57 (by kernel_rfl) (by kernel_rfl) (by kernel_rfl) (by kernel_rfl) args w
theorem names_ok : NamesOk Tryd.prog := @namesOk_of noSg _ (by kernel_rfl)
theorem codes_ok : FnsOk Tryd.prog (fun _ => true) := @fnsOk_of noSg _ _ (by kernel_rfl)
theorem mixed : Tryd.prog.follows .mixedOrders = true := by kernel_rfl
noncomputable def X [Sg] : Ext := extOf Tryd.prog 2 T
noncomputable def gl : List (Nat × List Value) := [(0, [.iface 80 (.agg #[typeHandle Tryd.prog 26])])]
/-- The variable's cell, out of the row's premise. -/
theorem told {W : World} (h : laidMetH Tryd.prog [("errors.errorType", Rows.laid_errors_errorType)] W) : Ab.Told W 2 gl := by
  have h' : laidMet Tryd.prog [] W ∧ handlesMet Tryd.prog [("errors.errorType", Rows.laid_errors_errorType)] W := h
  obtain ⟨name, u, ty, e1, e2, e3, e4, e5⟩ := h'.2 _ (List.mem_singleton.2 rfl)
  have en : name = [101, 114, 114, 111, 114] := (Option.some.inj e1).symm
  subst en
  obtain rfl := Option.some.inj ((show (Tryd.prog.cutTypes.find? (·.1 == "internal/reflectlite.rtype")).map (·.2) = some 80 by kernel_rfl).symm.trans e2)
  have hm : ty ∈ (List.range 125).filter fun t => Tryd.prog.rowNamed t [101, 114, 114, 111, 114] := List.mem_filter.2 ⟨List.mem_range.2 (by rw [← (show Tryd.prog.types.size = 125 by kernel_rfl)]; exact e3), e4⟩
  rw [show ((List.range 125).filter fun t => Tryd.prog.rowNamed t [101, 114, 114, 111, 114]) = [26] by kernel_rfl] at hm
  obtain rfl := List.mem_singleton.1 hm
  letI : Sg := noSg
  refine Ab.Told.one (by decide) (by kernel_rfl) ?_
  rw [World.var?_cell (show Tryd.prog.globalNamed "errors.errorType" = some 0 by kernel_rfl) e5 0]
  rfl

noncomputable def call0 [Sg] : ACall := evalFn Tryd.prog 2 X (fun _ => none) (fun _ => true) 400 20
theorem good0 [Sg] (W : World) : CallGood Tryd.prog W 2 call0 := evalFn_good ext_ok names_ok (fun f g h => by cases h) codes_ok mixed 20
/-- With some calls told, and the two tables built once. -/
noncomputable def callP [Sg] (ps : Pures) : ACall := evalFn Tryd.prog 2 X (orcOf 2 call0 ps [(20, []), (13, [])]) (fun _ => true) 1200 20
theorem goodP [Sg] {ps : Pures} (hp : ∀ f p, ps.lookup f = some p → PureOk Tryd.prog 2 gl f p) (W : World) (hT : Ab.Told W 2 gl) : CallGood Tryd.prog W 2 (callP ps) :=
  evalFn_good ext_ok names_ok (orcOk_of hT (fun W _ => good0 W) hp rfl) codes_ok mixed 20
noncomputable def call1 [Sg] : ACall := callP []
theorem good1 [Sg] (W : World) (hT : Ab.Told W 2 gl) : CallGood Tryd.prog W 2 call1 := goodP (fun f p h => by cases h) W hT

/-! ### The table's rows -/
structure Rw where
  num : Int
  name : ByteArray
  routine : ByteArray
  layer : Int
  k0 : Int
  k1 : Int
  k2 : Int
  k3 : Int
def noRow : Rw := ⟨0, ⟨#[]⟩, ⟨#[]⟩, 0, 0, 0, 0, 0⟩
def rows : List Rw := [
  ⟨1, ⟨#[99, 114, 101, 97, 116, 101]⟩, ⟨#[99, 98, 111, 114, 110]⟩, 17, 0, 0, 0, 0⟩,
  ⟨2, ⟨#[101, 120, 105, 116]⟩, ⟨#[99, 101, 120, 105, 116]⟩, 17, 0, 0, 0, 0⟩,
  ⟨3, ⟨#[106, 111, 105, 110]⟩, ⟨#[99, 106, 111, 105, 110]⟩, 17, 0, 0, 0, 0⟩,
  ⟨4, ⟨#[100, 101, 116, 97, 99, 104]⟩, ⟨#[99, 108, 111, 111, 115, 101]⟩, 17, 0, 0, 0, 0⟩,
  ⟨5, ⟨#[115, 101, 108, 102]⟩, ⟨#[99, 115, 101, 108, 102]⟩, 17, 0, 0, 0, 0⟩,
  ⟨6, ⟨#[121, 105, 101, 108, 100]⟩, ⟨#[99, 121, 105, 101, 108, 100]⟩, 17, 0, 0, 0, 0⟩,
  ⟨7, ⟨#[115, 108, 101, 101, 112]⟩, ⟨#[99, 115, 108, 101, 101, 112]⟩, 17, 0, 0, 0, 0⟩,
  ⟨8, ⟨#[110, 111, 119]⟩, ⟨#[99, 110, 111, 119]⟩, 17, 0, 0, 0, 0⟩,
  ⟨10, ⟨#[109, 117, 116, 101, 120, 32, 105, 110, 105, 116]⟩, ⟨#[99, 109, 105, 110, 105, 116]⟩, 18, 0, 0, 0, 0⟩,
  ⟨11, ⟨#[109, 117, 116, 101, 120, 32, 100, 101, 115, 116, 114, 111, 121]⟩, ⟨#[99, 109, 103, 111, 110, 101]⟩, 18, 1, 0, 0, 0⟩,
  ⟨12, ⟨#[109, 117, 116, 101, 120, 32, 108, 111, 99, 107]⟩, ⟨#[99, 109, 108, 111, 99, 107]⟩, 18, 1, 0, 0, 0⟩,
  ⟨13, ⟨#[109, 117, 116, 101, 120, 32, 116, 114, 121, 108, 111, 99, 107]⟩, ⟨#[99, 109, 116, 114, 121]⟩, 18, 1, 0, 0, 0⟩,
  ⟨14, ⟨#[109, 117, 116, 101, 120, 32, 116, 105, 109, 101, 100, 108, 111, 99, 107]⟩, ⟨#[99, 109, 116, 105, 109, 101, 100]⟩, 18, 1, 0, 0, 0⟩,
  ⟨15, ⟨#[109, 117, 116, 101, 120, 32, 117, 110, 108, 111, 99, 107]⟩, ⟨#[99, 109, 102, 114, 101, 101]⟩, 18, 1, 0, 0, 0⟩,
  ⟨20, ⟨#[115, 101, 109, 32, 105, 110, 105, 116]⟩, ⟨#[99, 115, 105, 110, 105, 116]⟩, 19, 0, 0, 0, 0⟩,
  ⟨21, ⟨#[115, 101, 109, 32, 100, 101, 115, 116, 114, 111, 121]⟩, ⟨#[99, 115, 103, 111, 110, 101]⟩, 19, 2, 0, 0, 0⟩,
  ⟨22, ⟨#[115, 101, 109, 32, 119, 97, 105, 116]⟩, ⟨#[99, 115, 119, 97, 105, 116]⟩, 19, 2, 0, 0, 0⟩,
  ⟨23, ⟨#[115, 101, 109, 32, 116, 114, 121, 119, 97, 105, 116]⟩, ⟨#[99, 115, 116, 114, 121]⟩, 19, 2, 0, 0, 0⟩,
  ⟨24, ⟨#[115, 101, 109, 32, 116, 105, 109, 101, 100, 119, 97, 105, 116]⟩, ⟨#[99, 115, 116, 105, 109, 101, 100]⟩, 19, 2, 0, 0, 0⟩,
  ⟨25, ⟨#[115, 101, 109, 32, 112, 111, 115, 116]⟩, ⟨#[99, 115, 112, 111, 115, 116]⟩, 19, 2, 0, 0, 0⟩,
  ⟨26, ⟨#[115, 101, 109, 32, 103, 101, 116]⟩, ⟨#[99, 115, 103, 101, 116]⟩, 19, 2, 0, 0, 0⟩,
  ⟨30, ⟨#[111, 110, 99, 101, 32, 105, 110, 105, 116]⟩, ⟨#[99, 111, 105, 110, 105, 116]⟩, 20, 0, 0, 0, 0⟩,
  ⟨31, ⟨#[111, 110, 99, 101]⟩, ⟨#[99, 111, 110, 99, 101]⟩, 20, 3, 0, 0, 0⟩,
  ⟨40, ⟨#[98, 97, 114, 114, 105, 101, 114, 32, 105, 110, 105, 116]⟩, ⟨#[99, 98, 105, 110, 105, 116]⟩, 21, 0, 0, 0, 0⟩,
  ⟨41, ⟨#[98, 97, 114, 114, 105, 101, 114, 32, 100, 101, 115, 116, 114, 111, 121]⟩, ⟨#[99, 98, 103, 111, 110, 101]⟩, 21, 4, 0, 0, 0⟩,
  ⟨42, ⟨#[98, 97, 114, 114, 105, 101, 114, 32, 119, 97, 105, 116]⟩, ⟨#[99, 98, 119, 97, 105, 116]⟩, 21, 4, 0, 0, 0⟩,
  ⟨50, ⟨#[114, 119, 108, 111, 99, 107, 32, 105, 110, 105, 116]⟩, ⟨#[99, 114, 105, 110, 105, 116]⟩, 22, 0, 0, 0, 0⟩,
  ⟨51, ⟨#[114, 119, 108, 111, 99, 107, 32, 100, 101, 115, 116, 114, 111, 121]⟩, ⟨#[99, 114, 103, 111, 110, 101]⟩, 22, 5, 0, 0, 0⟩,
  ⟨52, ⟨#[114, 119, 108, 111, 99, 107, 32, 114, 101, 97, 100]⟩, ⟨#[99, 114, 114, 101, 97, 100]⟩, 22, 5, 0, 0, 0⟩,
  ⟨53, ⟨#[114, 119, 108, 111, 99, 107, 32, 116, 114, 121, 114, 101, 97, 100]⟩, ⟨#[99, 114, 116, 114, 121, 114]⟩, 22, 5, 0, 0, 0⟩,
  ⟨54, ⟨#[114, 119, 108, 111, 99, 107, 32, 116, 105, 109, 101, 100, 114, 101, 97, 100]⟩, ⟨#[99, 114, 116, 114, 101, 97, 100]⟩, 22, 5, 0, 0, 0⟩,
  ⟨55, ⟨#[114, 119, 108, 111, 99, 107, 32, 119, 114, 105, 116, 101]⟩, ⟨#[99, 114, 119, 114, 105, 116, 101]⟩, 22, 5, 0, 0, 0⟩,
  ⟨56, ⟨#[114, 119, 108, 111, 99, 107, 32, 116, 114, 121, 119, 114, 105, 116, 101]⟩, ⟨#[99, 114, 116, 114, 121, 119]⟩, 22, 5, 0, 0, 0⟩,
  ⟨57, ⟨#[114, 119, 108, 111, 99, 107, 32, 116, 105, 109, 101, 100, 119, 114, 105, 116, 101]⟩, ⟨#[99, 114, 116, 119, 114, 105, 116]⟩, 22, 5, 0, 0, 0⟩,
  ⟨58, ⟨#[114, 119, 108, 111, 99, 107, 32, 117, 110, 108, 111, 99, 107]⟩, ⟨#[99, 114, 102, 114, 101, 101]⟩, 22, 5, 0, 0, 0⟩,
  ⟨60, ⟨#[99, 111, 110, 100, 32, 105, 110, 105, 116]⟩, ⟨#[99, 99, 105, 110, 105, 116]⟩, 23, 0, 0, 0, 0⟩,
  ⟨61, ⟨#[99, 111, 110, 100, 32, 100, 101, 115, 116, 114, 111, 121]⟩, ⟨#[99, 99, 103, 111, 110, 101]⟩, 23, 6, 0, 0, 0⟩,
  ⟨62, ⟨#[99, 111, 110, 100, 32, 119, 97, 105, 116]⟩, ⟨#[99, 99, 119, 97, 105, 116]⟩, 23, 6, 1, 0, 0⟩,
  ⟨63, ⟨#[99, 111, 110, 100, 32, 116, 105, 109, 101, 100, 119, 97, 105, 116]⟩, ⟨#[99, 99, 116, 105, 109, 101, 100]⟩, 23, 6, 1, 0, 0⟩,
  ⟨64, ⟨#[99, 111, 110, 100, 32, 115, 105, 103, 110, 97, 108]⟩, ⟨#[99, 99, 115, 105, 103, 110]⟩, 23, 6, 0, 0, 0⟩,
  ⟨65, ⟨#[99, 111, 110, 100, 32, 98, 114, 111, 97, 100, 99, 97, 115, 116]⟩, ⟨#[99, 99, 98, 114, 111, 97, 100]⟩, 23, 6, 0, 0, 0⟩,
  ⟨70, ⟨#[102, 117, 116, 101, 120, 32, 119, 97, 105, 116]⟩, ⟨#[99, 102, 119, 97, 105, 116]⟩, 16, 7, 0, 0, 0⟩,
  ⟨71, ⟨#[102, 117, 116, 101, 120, 32, 119, 97, 107, 101]⟩, ⟨#[99, 102, 119, 97, 107, 101]⟩, 16, 7, 0, 0, 0⟩,
  ⟨72, ⟨#[102, 117, 116, 101, 120, 32, 114, 101, 113, 117, 101, 117, 101]⟩, ⟨#[99, 102, 114, 101, 113]⟩, 16, 7, 0, 7, 0⟩,
  ⟨73, ⟨#[102, 117, 116, 101, 120, 32, 99, 109, 112, 114, 101, 113, 117, 101, 117, 101]⟩, ⟨#[99, 102, 99, 109, 112]⟩, 16, 7, 0, 7, 0⟩]
def i64 (n : Int) : Value := .int .i64 n
def row (n : Int) : Rw := (rows.find? (·.num == n)).getD noRow
def isRow (n : Int) : Bool := (rows.find? (·.num == n)).isSome
def rowOf (s : ByteArray) : Rw := (rows.find? fun r => r.name.data == s.data).getD noRow
def isName (s : ByteArray) : Bool := (rows.find? fun r => r.name.data == s.data).isSome
def hasNum (x : Value) : Bool :=
  match x with
  | .int .i64 m => rows.any (·.num == m)
  | _ => false
def hasName (x : Value) : Bool :=
  match x with
  | .string s => rows.any (·.name.data == s.data)
  | _ => false
/-- What posix.of, distaffref24.Find and posix.Num give. -/
def ofV (r : Rw) (is : Bool) : Value := .tuple #[.agg #[i64 r.num, .string r.name, .string r.routine, i64 r.k0, i64 r.k1, i64 r.k2, i64 r.k3], .bool is]
def findV (r : Rw) (is : Bool) : Value := .tuple #[.agg #[i64 r.num, .string r.name, .string r.routine, i64 r.layer, i64 r.k0, i64 r.k1, i64 r.k2, i64 r.k3], .bool is]
def numV (n : Int) (is : Bool) : Value := .tuple #[i64 n, .bool is]
end Go.Proofs.YtcfmeiejfofgpaaDoor
