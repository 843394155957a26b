import Derived.Test.YtpceoplkghnklaaDoorProg
import Derived.WalkKit
import Derived.LaidEql
import Derived.Stop.Asserts
import Derived.RowKitTokens
import Derived.LoopTactic
import Derived.Deep.QuietTactic
import Derived.BigQuiet
import Derived.ChangeFn
import Derived.Deep.RegionWith
import Derived.Test.YtpceoplkghnklaaDoorRows
import Derived.ChangeSame
import Derived.ChangeVars
import Derived.JoinedOf
import Derived.RowKit
import Derived.LaidLaws
import Derived.LaidHandle
import Derived.Stop.Joined
import Derived.Carry
import Derived.Test.YtpceoplkghnklaaDoorCards
import Derived.Test.YtpceoplkghnklaaDoorTie
import Derived.SevenTiedAt
namespace Go.Proofs.YtpceoplkghnklaaDoor
open Go.RowKit Go.Extern.Stop Go.Stop Go.Extern

/-! Closed facts of the model's entries at this program's types -/
theorem rTypeOf (v : Value) (w : World) : (ReflectliteType.typeOf #[.iface 36 v]).run Tryd.prog w = .ok (.iface 62 (.agg #[.pointer (some ⟨4, 36, none⟩)])) w := by kernel_rfl
theorem rTypeOfW (v : Value) (w : World) : (ReflectliteType.typeOf #[.iface 39 v]).run Tryd.prog w = .ok (.iface 62 (.agg #[.pointer (some ⟨4, 39, none⟩)])) w := by kernel_rfl
theorem rComparable (w : World) : ((ReflectliteType.method fun t => (fun a => Value.bool a.comparable) <$> typeInfo t) #[.agg #[.pointer (some ⟨4, 36, none⟩)]]).run Tryd.prog w = .ok (.bool true) w := by kernel_rfl
theorem rMethodComparable (v : Value) (w : World) : (Go.method 225 62 v "Comparable").run Tryd.prog w = .ok (64, v) w := by kernel_rfl
theorem rValueOfT (t : Addr) (w : World) : (ReflectliteValue.unpack (.iface 45 (.pointer (some t)))).run Tryd.prog w
    = .ok (.agg #[.pointer (some ⟨4, 45, none⟩), .pointer (some ⟨w.heap.size, 0, none⟩), .int .u64 150]) (w.alloc (.cells #[.pointer (some t)] 45)) := by kernel_rfl
theorem rTypeT (a : Addr) (w : World) : (ReflectliteValue.methodAny (ReflectliteValue.valueError "reflectlite.Value.Type" 0) (fun t _ _ _ => ReflectliteType.toType t) #[.agg #[.pointer (some ⟨4, 45, none⟩), .pointer (some a), .int .u64 150]]).run Tryd.prog w
    = .ok (.iface 62 (.agg #[.pointer (some ⟨4, 45, none⟩)])) w := by kernel_rfl
theorem rMethodKind (h : Value) (w : World) : (Go.method 225 62 (.agg #[h]) "Kind").run Tryd.prog w = .ok (38, h) w := by kernel_rfl
theorem rKindT (w : World) : ((ReflectliteType.abiMethod fun t => (fun a : Nat => Value.int IntKind.u8 (a : Int)) <$> Rtype.kind t) #[.pointer (some ⟨4, 45, none⟩)]).run Tryd.prog w = .ok (.int .u8 22) w := by kernel_rfl
theorem rKindP (w : World) : ((ReflectliteType.abiMethod fun t => (fun a : Nat => Value.int IntKind.u8 (a : Int)) <$> Rtype.kind t) #[.pointer (some ⟨4, 36, none⟩)]).run Tryd.prog w = .ok (.int .u8 22) w := by kernel_rfl
theorem rlm (z : Sem Value) (f : TypeId → Addr → Nat → Nat → Sem Value) (v : Value) :
    ReflectliteValue.method z f #[v] = (do match ← ReflectliteValue.parts v with | none => z | some (t, a, fl) => f t a fl (fl % 32)) := rfl
theorem rPartsT (a : Addr) (w : World) : (ReflectliteValue.parts (.agg #[.pointer (some ⟨4, 45, none⟩), .pointer (some a), .int .u64 150])).run Tryd.prog w = .ok (some (45, a, 150)) w := by kernel_rfl
theorem rIsNil (a p : Addr) (W : World) (ha : W.cell? a = some (.pointer (some p))) :
    (ReflectliteValue.method (ReflectliteValue.valueError "reflectlite.Value.IsNil" 0) ReflectliteValue.isNil #[.agg #[.pointer (some ⟨4, 45, none⟩), .pointer (some a), .int .u64 150]]).run Tryd.prog W = .ok (.bool false) W := by
  rw [rlm]
  simp only [Sem.run_bind, rPartsT, Result.andThen]
  simp [ReflectliteValue.isNil, loadVar, isAgg, underlying, Tryd.underlying45, ha, Result.andThen]
theorem rMethodElem (h : Value) (w : World) : (Go.method 225 62 (.agg #[h]) "Elem").run Tryd.prog w = .ok (65, .agg #[h]) w := by kernel_rfl
theorem rMethodImplements (h : Value) (w : World) : (Go.method 225 62 (.agg #[h]) "Implements").run Tryd.prog w = .ok (66, .agg #[h]) w := by kernel_rfl
theorem rMethodAssignableTo (h : Value) (w : World) : (Go.method 225 62 (.agg #[h]) "AssignableTo").run Tryd.prog w = .ok (63, .agg #[h]) w := by kernel_rfl
theorem rElemT (w : World) : (ReflectliteType.method ReflectliteType.elem #[.agg #[.pointer (some ⟨4, 45, none⟩)]]).run Tryd.prog w = .ok (.iface 62 (.agg #[.pointer (some ⟨4, 36, none⟩)])) w := by kernel_rfl
theorem rImplements (w : World) : (ReflectliteType.relation "Implements" ReflectliteType.implements_ #[.agg #[.pointer (some ⟨4, 36, none⟩)], .iface 62 (.agg #[.pointer (some ⟨4, 26, none⟩)])]).run Tryd.prog w = .ok (.bool true) w := by kernel_rfl
theorem rAssignable (w : World) : (ReflectliteType.relation "AssignableTo" ReflectliteType.assignableTo #[.agg #[.pointer (some ⟨4, 36, none⟩)], .iface 62 (.agg #[.pointer (some ⟨4, 36, none⟩)])]).run Tryd.prog w = .ok (.bool true) w := by kernel_rfl
theorem rAssignableW (w : World) : (ReflectliteType.relation "AssignableTo" ReflectliteType.assignableTo #[.agg #[.pointer (some ⟨4, 39, none⟩)], .iface 62 (.agg #[.pointer (some ⟨4, 36, none⟩)])]).run Tryd.prog w = .ok (.bool false) w := by kernel_rfl
theorem rValueOfP (e : Addr) (w : World) : (ReflectliteValue.unpack (.iface 36 (.pointer (some e)))).run Tryd.prog w
    = .ok (.agg #[.pointer (some ⟨4, 36, none⟩), .pointer (some ⟨w.heap.size, 0, none⟩), .int .u64 150]) (w.alloc (.cells #[.pointer (some e)] 36)) := by kernel_rfl
theorem rElemOf (w : World) : (Rtype.elem? 45).run Tryd.prog w = .ok (some 36) w := by kernel_rfl
theorem rMk (p : Addr) (w : World) : (ReflectliteValue.mk 36 p ReflectliteValue.flagAddr).run Tryd.prog w = .ok (.agg #[.pointer (some ⟨4, 36, none⟩), .pointer (some p), .int .u64 406]) w := by kernel_rfl
theorem rElemV (a p : Addr) (W : World) (ha : W.cell? a = some (.pointer (some p))) :
    (ReflectliteValue.method (ReflectliteValue.valueError "reflectlite.Value.Elem" 0) ReflectliteValue.elem #[.agg #[.pointer (some ⟨4, 45, none⟩), .pointer (some a), .int .u64 150]]).run Tryd.prog W
      = .ok (.agg #[.pointer (some ⟨4, 36, none⟩), .pointer (some p), .int .u64 406]) W := by
  rw [rlm]
  simp only [Sem.run_bind, rPartsT, Result.andThen]
  simp [ReflectliteValue.elem, loadVar, isAgg, underlying, Tryd.underlying45, ha, Result.andThen, rElemOf, rMk]
theorem rls (v x : Value) : ReflectliteValue.set #[v, x] = (do
    let (some (dst, a, fl), some (src, b, _)) := (← ReflectliteValue.parts v, ← ReflectliteValue.parts x)
      | unsupported (.noEntry "extern/(internal/reflectlite.Value).Set.zeroValue")
    if fl / ReflectliteValue.flagAddr % 2 == 0 then unsupported (.noEntry "extern/(internal/reflectlite.Value).Set.unaddressable")
    let val ← loadVar src b
    if ← Rtype.directlyAssignable dst src then storeVar dst a val
    else if ← Rtype.implements dst src then
      if (← Rtype.kind src) == 20 then
        match val with
        | .nilIface => unsupported (.noEntry "extern/reflectlite: a nil value of one interface type handed on as a value of another")
        | _ => storeVar dst a val
      else storeVar dst a (.iface src val)
    else panicString ("reflectlite.Set: value of type " ++ (← Rtype.spelt src) ++ " is not assignable to type " ++ (← Rtype.spelt dst))
    pure (.tuple #[])) := rfl
theorem rPartsA (a : Addr) (w : World) : (ReflectliteValue.parts (.agg #[.pointer (some ⟨4, 36, none⟩), .pointer (some a), .int .u64 406])).run Tryd.prog w = .ok (some (36, a, 406)) w := by kernel_rfl
theorem rPartsP (a : Addr) (w : World) : (ReflectliteValue.parts (.agg #[.pointer (some ⟨4, 36, none⟩), .pointer (some a), .int .u64 150])).run Tryd.prog w = .ok (some (36, a, 150)) w := by kernel_rfl
theorem rDirect (w : World) : (Rtype.directlyAssignable 36 36).run Tryd.prog w = .ok true w := by kernel_rfl
theorem rSet (ta b e : Addr) (old : Value) (W : World) (hb : W.cell? b = some (.pointer (some e))) (ht : W.cell? ta = some old) (hf : W.frozen? ta = false) :
    (ReflectliteValue.set #[.agg #[.pointer (some ⟨4, 36, none⟩), .pointer (some ta), .int .u64 406], .agg #[.pointer (some ⟨4, 36, none⟩), .pointer (some b), .int .u64 150]]).run Tryd.prog W
      = .ok (.tuple #[]) (W.setCell ta (.pointer (some e))) := by
  rw [rls]
  simp only [Sem.run_bind, rPartsA, rPartsP, Result.andThen]
  simp [ReflectliteValue.flagAddr, loadVar, isAgg, underlying, Tryd.underlying36, hb, Result.andThen, rDirect, storeVar, Value.cells, storeCells, Addr.add]
  rw [run_store Tryd.prog W ta _ _ (by rfl)]
  simp [ht, hf]
/-! what the assertions find -/
theorem aAsF (v : Value) (xT : TypeId) (w : World) : (Instr.typeAssert (.iface 36 v) xT 66 true).run Tryd.prog w = .ok (.tuple #[.nilIface, .bool false]) w := run_typeAssert_lacksB Tryd.underlying66 (by kernel_rfl) (by kernel_rfl) v xT w
theorem aAsW (v : Value) (xT : TypeId) (w : World) : (Instr.typeAssert (.iface 39 v) xT 66 true).run Tryd.prog w = .ok (.tuple #[.nilIface, .bool false]) w := run_typeAssert_lacksB Tryd.underlying66 (by kernel_rfl) (by kernel_rfl) v xT w
theorem aIsF (v : Value) (xT : TypeId) (w : World) : (Instr.typeAssert (.iface 36 v) xT 74 true).run Tryd.prog w = .ok (.tuple #[.iface 36 v, .bool true]) w := run_typeAssert_hasB Tryd.underlying74 (by kernel_rfl) v xT w
theorem aIsW (v : Value) (xT : TypeId) (w : World) : (Instr.typeAssert (.iface 39 v) xT 74 true).run Tryd.prog w = .ok (.tuple #[.nilIface, .bool false]) w := run_typeAssert_lacksB Tryd.underlying74 (by kernel_rfl) (by kernel_rfl) v xT w
theorem aUnF (v : Value) (xT : TypeId) (w : World) : (Instr.typeAssert (.iface 36 v) xT 69 true).run Tryd.prog w = .ok (.tuple #[.nilIface, .bool false]) w := run_typeAssert_lacksB Tryd.underlying69 (by kernel_rfl) (by kernel_rfl) v xT w
theorem aUnW (v : Value) (xT : TypeId) (w : World) : (Instr.typeAssert (.iface 39 v) xT 69 true).run Tryd.prog w = .ok (.tuple #[.iface 39 v, .bool true]) w := run_typeAssert_hasB Tryd.underlying69 (by kernel_rfl) v xT w
theorem aUsF (v : Value) (xT : TypeId) (w : World) : (Instr.typeAssert (.iface 36 v) xT 71 true).run Tryd.prog w = .ok (.tuple #[.nilIface, .bool false]) w := run_typeAssert_lacksB Tryd.underlying71 (by kernel_rfl) (by kernel_rfl) v xT w
theorem mUnwrap (v : Value) (w : World) : (Go.method 225 39 v "Unwrap").run Tryd.prog w = .ok (58, v) w := by kernel_rfl
theorem mIs (v : Value) (w : World) : (Go.method 225 36 v "Is").run Tryd.prog w = .ok (42, v) w := by kernel_rfl
theorem mErrorF (v : Value) (w : World) : (Go.method 225 36 v "Error").run Tryd.prog w = .ok (41, v) w := by kernel_rfl
theorem mErrorW (v : Value) (w : World) : (Go.method 225 39 v "Error").run Tryd.prog w = .ok (57, v) w := by kernel_rfl
end Go.Proofs.YtpceoplkghnklaaDoor
namespace Go.Proofs.YtpceoplkghnklaaDoor
open Go.RowKit Go.Extern.Stop Go.Stop Go.Extern

/-- An error of the fault in block b, wrapped so often. -/
inductive Ch (W : World) (b : Nat) (code line : Int) : Value → Nat → Prop
  | base (h : W.heap[b]? = some (.cells #[.int .i64 code, .int .i64 line] 38 (0, 0))) : Ch W b code line (.iface 36 (.pointer (some ⟨b, 0, none⟩))) 0
  | wrap (d n : Nat) (v : Value) (s : ByteArray) (h : W.heap[d]? = some (.cells #[v, .string s] 41 (0, 0))) (hv : Ch W b code line v n) : Ch W b code line (.iface 39 (.pointer (some ⟨d, 0, none⟩))) (n + 1)
theorem Ch.uniq {W : World} {b : Nat} {code line : Int} {v : Value} {n : Nat} (h : Ch W b code line v n) : ∀ {m}, Ch W b code line v m → n = m := by
  induction h with
  | base h => intro m hm; cases hm; rfl
  | wrap d n v s h hv ih =>
    intro m hm
    cases hm with
    | wrap d' n' v' s' h' hv' =>
      rw [h] at h'
      have : v = v' := by injection h' with e; injection e with e1; simp at e1; exact e1.1
      subst this
      rw [ih hv']
theorem Ch.mono {W W' : World} {b : Nat} {code line : Int} {v : Value} {n : Nat} (hk : ∀ (i : Nat) (c : Array Value) (t : TypeId), W.heap[i]? = some (Obj.cells c t (0, 0)) → W'.heap[i]? = some (Obj.cells c t (0, 0))) (h : Ch W b code line v n) : Ch W' b code line v n := by
  induction h with
  | base h => exact .base (hk _ _ _ h)
  | wrap d n v s h hv ih => exact .wrap d n v s (hk _ _ _ h) ih
noncomputable def dep (W : World) (b : Nat) (code line : Int) (v : Value) : Nat := @Classical.epsilon Nat ⟨0⟩ (Ch W b code line v)
theorem dep_eq {W : World} {b : Nat} {code line : Int} {v : Value} {n : Nat} (h : Ch W b code line v n) : dep W b code line v = n :=
  (Ch.uniq h (@Classical.epsilon_spec Nat (Ch W b code line v) ⟨n, h⟩)).symm
theorem heap_alloc {W : World} {o : Obj} {i : Nat} {p : Obj} (h : W.heap[i]? = some p) : (W.alloc o).heap[i]? = some p := by
  have hlt : i < W.heap.size := by
    rcases Nat.lt_or_ge i W.heap.size with h2 | h2
    · exact h2
    · rw [Array.getElem?_eq_none h2] at h; cases h
  show (W.heap.push o)[i]? = _
  rw [Array.getElem?_push, if_neg (Nat.ne_of_lt hlt)]; exact h
theorem cell_of {W : World} {b : Nat} {c : Array Value} {t : TypeId} {k : Nat} {x : Value} (h : W.heap[b]? = some (.cells c t (0, 0))) (hx : c[k]? = some x) : W.cell? ⟨b, k, none⟩ = some x := by
  simp [World.cell?, h, hx]
theorem Ch.iface {W : World} {b : Nat} {code line : Int} {v : Value} {n : Nat} (h : Ch W b code line v n) : ∃ t x, v = .iface t x := by
  cases h with
  | base h => exact ⟨_, _, rfl⟩
  | wrap d n v s h hv => exact ⟨_, _, rfl⟩

set_option maxHeartbeats 4000000 in
theorem as_loop {w : World} {b : Nat} {code line : Int} {v : Value} {n : Nat} (hv : Ch w b code line v n) (t p : Addr) (old : Value) (hp : w.cell? p = some (.pointer (some t))) (ht0 : w.cell? t = some old) (hf0 : w.frozen? t = false) :
    Calls Tryd.prog 19 #[v, .iface 45 (.pointer (some t)), .agg #[.pointer (some ⟨4, 45, none⟩), .pointer (some p), .int .u64 150], .iface 62 (.agg #[.pointer (some ⟨4, 36, none⟩)])] w fun ev w' => ev = .returned (.bool true) ∧
      w' = ((w.alloc (.cells #[.pointer (some ⟨4, 45, none⟩), .pointer (some p), .int .u64 150] 50)).alloc (.cells #[.pointer (some ⟨b, 0, none⟩)] 36)).setCell t (.pointer (some ⟨b, 0, none⟩)) := by
  have h20 := @run_callFunc_extern Tryd.prog 20 _ ReflectliteType.typeOf Tryd.func20 (by kernel_rfl) (by kernel_rfl) (by kernel_rfl) (by kernel_rfl)
  have h63 := @run_callFunc_extern Tryd.prog 63 _ (ReflectliteType.relation "AssignableTo" ReflectliteType.assignableTo) Tryd.func63 (by kernel_rfl) (by kernel_rfl) (by kernel_rfl) (by kernel_rfl)
  have h16 := @run_callFunc_extern Tryd.prog 16 _ (fun args => ReflectliteValue.unpack (args.getD 0 (.tuple #[]))) Tryd.func16 (by kernel_rfl) (by kernel_rfl) (by kernel_rfl) (by kernel_rfl)
  have h22 := @run_callFunc_extern Tryd.prog 22 _ (ReflectliteValue.method (ReflectliteValue.valueError "reflectlite.Value.Elem" 0) ReflectliteValue.elem) Tryd.func22 (by kernel_rfl) (by kernel_rfl) (by kernel_rfl) (by kernel_rfl)
  have h23 := @run_callFunc_extern Tryd.prog 23 _ ReflectliteValue.set Tryd.func23 (by kernel_rfl) (by kernel_rfl) (by kernel_rfl) (by kernel_rfl)
  have e1 := rTypeOf
  have e2 := rTypeOfW
  have e3 := rMethodAssignableTo
  have e4 := rAssignable
  have e5 := rAssignableW
  have e6 := rValueOfP
  have e7 := aAsF
  have e8 := aAsW
  have e9 := aUnF
  have e10 := aUnW
  have e11 := aUsF
  have e12 := mUnwrap
  have hsz : ∀ {a : Addr} {x : Value}, w.cell? a = some x → a.block < w.heap.size := fun {a x} h => by
    rcases Nat.lt_or_ge a.block w.heap.size with h2 | h2
    · exact h2
    · simp [World.cell?, Array.getElem?_eq_none h2] at h
  have el := rElemV p t (w.alloc (.cells #[.pointer (some ⟨4, 45, none⟩), .pointer (some p), .int .u64 150] 50)) (by rw [World.cell?_alloc_lt _ _ p (hsz hp)]; exact hp)
  have st := rSet t ⟨w.heap.size + 1, 0, none⟩ ⟨b, 0, none⟩ old ((w.alloc (.cells #[.pointer (some ⟨4, 45, none⟩), .pointer (some p), .int .u64 150] 50)).alloc (.cells #[.pointer (some ⟨b, 0, none⟩)] 36))
    (by rw [World.cell?_alloc_at _ _ _ _ (by simp)]; rfl)
    (by rw [World.cell?_alloc_lt _ _ t (by have := hsz ht0; simp; omega), World.cell?_alloc_lt _ _ t (hsz ht0)]; exact ht0)
    (by rw [World.frozen?_alloc_old _ _ t (by have := hsz ht0; simp; omega), World.frozen?_alloc_old _ _ t (Nat.ne_of_lt (hsz ht0))]; exact hf0)
  have hv1 : Ch (w.alloc (.cells #[.pointer (some ⟨4, 45, none⟩), .pointer (some p), .int .u64 150] 50)) b code line v n := hv.mono (fun i c t h => heap_alloc h)
  go_enter Tryd.func19, Tryd.ntmps19
  go_wp2
  go_loop [0] (fun x => ∃ k, Ch (w.alloc (.cells #[.pointer (some ⟨4, 45, none⟩), .pointer (some p), .int .u64 150] 50)) b code line x k) (fun x => dep (w.alloc (.cells #[.pointer (some ⟨4, 45, none⟩), .pointer (some p), .int .u64 150] 50)) b code line x)
  case atStart => exact ⟨n, hv1⟩
  case round =>
    obtain ⟨k, hk⟩ := hrel
    cases hk with
    | base h =>
      go_wp2
      go_ret
      exact ⟨rfl, rfl⟩
    | wrap d k v s h hk =>
      have hc := cell_of (k := 0) h rfl
      obtain ⟨t1, x1, rfl⟩ := hk.iface
      go_wp2
      go_round
      case rel => exact ⟨k, hk⟩
      case measure =>
        have m1 := dep_eq hk
        have m2 := dep_eq (Ch.wrap d k _ s h hk)
        simp only [Array.getD_eq_getD_getElem?] at *
        simp
        omega
end Go.Proofs.YtpceoplkghnklaaDoor
namespace Go.Proofs.YtpceoplkghnklaaDoor
open Go.RowKit Go.Extern.Stop Go.Stop Go.Extern

theorem size_of {w : World} {a : Addr} {x : Value} (h : w.cell? a = some x) : a.block < w.heap.size := by
  rcases Nat.lt_or_ge a.block w.heap.size with h2 | h2
  · exact h2
  · simp [World.cell?, Array.getElem?_eq_none h2] at h
/-- errors.As(nil, target). -/
theorem as_nil (t : Value) (w : World) :
    Calls Tryd.prog 14 #[.nilIface, t] w fun e w' => e = .returned (.bool false) ∧ w' = w := by
  go_enter Tryd.func14, Tryd.ntmps14
  go_wp2
  go_ret
  exact ⟨rfl, rfl⟩
abbrev asW (w : World) (t : Addr) (b : Nat) : World :=
  ((((w.alloc (.cells #[.pointer (some t)] 45)).alloc (.cells #[.pointer (some ⟨4, 45, none⟩), .pointer (some ⟨w.heap.size, 0, none⟩), .int .u64 150] 50)).alloc (.cells #[.pointer (some ⟨4, 45, none⟩), .pointer (some ⟨w.heap.size, 0, none⟩), .int .u64 150] 50)).alloc (.cells #[.pointer (some ⟨b, 0, none⟩)] 36)).setCell t (.pointer (some ⟨b, 0, none⟩))
set_option maxHeartbeats 4000000 in
theorem as_chain {w : World} {b : Nat} {code line : Int} {v : Value} {n : Nat} (hv : Ch w b code line v n) (t : Addr) (old : Value) (hg : w.cell? ⟨0, 0, none⟩ = some (.iface 62 (.agg #[.pointer (some ⟨4, 26, none⟩)]))) (ht0 : w.cell? t = some old) (hf0 : w.frozen? t = false) :
    Calls Tryd.prog 14 #[v, .iface 45 (.pointer (some t))] w fun ev w' => ev = .returned (.bool true) ∧ w' = asW w t b := by
  have h16 := @run_callFunc_extern Tryd.prog 16 _ (fun args => ReflectliteValue.unpack (args.getD 0 (.tuple #[]))) Tryd.func16 (by kernel_rfl) (by kernel_rfl) (by kernel_rfl) (by kernel_rfl)
  have h17 := @run_callFunc_extern Tryd.prog 17 _ (ReflectliteValue.methodAny (ReflectliteValue.valueError "reflectlite.Value.Type" 0) (fun t _ _ _ => ReflectliteType.toType t)) Tryd.func17 (by kernel_rfl) (by kernel_rfl) (by kernel_rfl) (by kernel_rfl)
  have h18 := @run_callFunc_extern Tryd.prog 18 _ (ReflectliteValue.method (ReflectliteValue.valueError "reflectlite.Value.IsNil" 0) ReflectliteValue.isNil) Tryd.func18 (by kernel_rfl) (by kernel_rfl) (by kernel_rfl) (by kernel_rfl)
  have h38 := @run_callFunc_extern Tryd.prog 38 _ (ReflectliteType.abiMethod fun t => do pure (.int .u8 (← Rtype.kind t))) Tryd.func38 (by kernel_rfl) (by kernel_rfl) (by kernel_rfl) (by kernel_rfl)
  have h65 := @run_callFunc_extern Tryd.prog 65 _ (ReflectliteType.method ReflectliteType.elem) Tryd.func65 (by kernel_rfl) (by kernel_rfl) (by kernel_rfl) (by kernel_rfl)
  have h66 := @run_callFunc_extern Tryd.prog 66 _ (ReflectliteType.relation "Implements" ReflectliteType.implements_) Tryd.func66 (by kernel_rfl) (by kernel_rfl) (by kernel_rfl) (by kernel_rfl)
  have f6 := rValueOfT
  have f7 := rTypeT
  have mK := rMethodKind
  have mE := rMethodElem
  have mI := rMethodImplements
  have k27 := rKindT
  have k25 := rKindP
  have e27 := rElemT
  have i25 := rImplements
  have n8 := rIsNil ⟨w.heap.size, 0, none⟩ t ((w.alloc (.cells #[.pointer (some t)] 45)).alloc (.cells #[.pointer (some ⟨4, 45, none⟩), .pointer (some ⟨w.heap.size, 0, none⟩), .int .u64 150] 50)) (by simp)
  have hlt : 0 < w.heap.size := size_of hg
  have hg2 : ((w.alloc (.cells #[.pointer (some t)] 45)).alloc (.cells #[.pointer (some ⟨4, 45, none⟩), .pointer (some ⟨w.heap.size, 0, none⟩), .int .u64 150] 50)).cell? ⟨0, 0, none⟩ = some (.iface 62 (.agg #[.pointer (some ⟨4, 26, none⟩)])) := by
    rw [World.cell?_alloc_lt _ _ ⟨0, 0, none⟩ (by simp), World.cell?_alloc_lt _ _ ⟨0, 0, none⟩ hlt]; exact hg
  have htl : t.block < w.heap.size := size_of ht0
  have hv2 : Ch ((w.alloc (.cells #[.pointer (some t)] 45)).alloc (.cells #[.pointer (some ⟨4, 45, none⟩), .pointer (some ⟨w.heap.size, 0, none⟩), .int .u64 150] 50)) b code line v n := (hv.mono (fun i c t h => heap_alloc h)).mono (fun i c t h => heap_alloc h)
  have L := as_loop hv2 t ⟨w.heap.size, 0, none⟩ old (by rw [World.cell?_alloc_lt _ _ _ (by simp)]; simp) (by rw [World.cell?_alloc_lt _ _ t (by simp; omega), World.cell?_alloc_lt _ _ t htl]; exact ht0)
    (by rw [World.frozen?_alloc_old _ _ t (by simp; omega), World.frozen?_alloc_old _ _ t (Nat.ne_of_lt htl)]; exact hf0)
  obtain ⟨t1, x1, rfl⟩ := hv.iface
  go_enter Tryd.func14, Tryd.ntmps14
  go_wp2_with (first | (go_at_call 19; refine L.mono ?_; rintro e w' ⟨rfl, rfl⟩))
  go_ret
  exact ⟨rfl, rfl⟩
end Go.Proofs.YtpceoplkghnklaaDoor
namespace Go.Proofs.YtpceoplkghnklaaDoor
open Go.RowKit Go.Extern.Stop Go.Stop Go.Extern

theorem aConc (v : Value) (xT : TypeId) (w : World) : (Instr.typeAssert (.iface 36 v) xT 36 true).run Tryd.prog w = .ok (.tuple #[v, .bool true]) w := by kernel_rfl
set_option maxRecDepth 100000
/-- (*fault).Is at another fault. -/
theorem is_meth {w : World} {b d : Nat} {code line code2 line2 : Int} (hb : w.heap[b]? = some (.cells #[.int .i64 code, .int .i64 line] 38 (0, 0))) (hd : w.heap[d]? = some (.cells #[.int .i64 code2, .int .i64 line2] 38 (0, 0))) :
    Calls Tryd.prog 42 #[.pointer (some ⟨b, 0, none⟩), .iface 36 (.pointer (some ⟨d, 0, none⟩))] w fun e w' => e = .returned (.bool (decide (code2 = code))) ∧ ∃ q, w' = w.drewN q := by
  have c1 := cell_of (k := 0) hb rfl
  have c2 := cell_of (k := 0) hd rfl
  have e1 := aConc
  go_enter Tryd.func42, Tryd.ntmps42
  go_wp2
  go_quiet (fail)
  go_wp2
  go_ret
  exact ⟨rfl, _, rfl⟩
set_option maxHeartbeats 4000000 in
theorem is_loop {w : World} {b d : Nat} {code line code2 line2 : Int} {v : Value} {n : Nat} (hv : Ch w b code line v n) (hne : b ≠ d) (hd : w.heap[d]? = some (.cells #[.int .i64 code2, .int .i64 line2] 38 (0, 0))) :
    Calls Tryd.prog 21 #[v, .iface 36 (.pointer (some ⟨d, 0, none⟩)), .bool true] w fun e w' => e = .returned (.bool (decide (code2 = code))) ∧ ∃ q, w' = w.drewN q := by
  obtain ⟨i, hi, hcmp⟩ := Option.map_eq_some_iff.1 (show (Tryd.prog.info? 36).map (·.comparable) = some true by kernel_rfl)
  obtain ⟨j, hj, hjs⟩ := Option.map_eq_some_iff.1 (show (Tryd.prog.info? 38).map (·.size) = some 2 by kernel_rfl)
  have e7 := aIsF
  have e8 := aIsW
  have e9 := aUnF
  have e10 := aUnW
  have e11 := aUsF
  have e12 := mUnwrap
  have e13 := mIs
  generalize hr : decide (code2 = code) = r
  go_enter Tryd.func21, Tryd.ntmps21
  go_wp2
  go_loop [0] (fun x => ∃ k, Ch w b code line x k) (fun x => dep w b code line x)
  case atStart => exact ⟨n, hv⟩
  case round =>
    obtain ⟨k, hk⟩ := hrel
    cases hk with
    | base h =>
      have heq := run_eql_iface_ptr_other (P := Tryd.prog) w Tryd.underlying26 Tryd.underlying36 hi hcmp hj (by rw [hjs]; decide) (show (⟨b, 0, none⟩ : Addr) ≠ ⟨d, 0, none⟩ from fun e => hne (by injection e)) h hd
      have M := is_meth h hd
      rw [hr] at M
      cases r with
      | true =>
        go_wp2_with (go_at_call 42; refine M.mono ?_; rintro e w' ⟨rfl, q, rfl⟩)
        go_ret
        exact ⟨rfl, q, rfl⟩
      | false =>
        go_wp2_with (go_at_call 42; refine M.mono ?_; rintro e w' ⟨rfl, q, rfl⟩)
        go_ret
        exact ⟨rfl, q, rfl⟩
    | wrap f k v s h hk =>
      have hc := cell_of (k := 0) h rfl
      have hty := run_eql_iface_types (P := Tryd.prog) 39 36 (.pointer (some ⟨f, 0, none⟩)) (.pointer (some ⟨d, 0, none⟩)) Tryd.underlying26 (by decide) w
      obtain ⟨t1, x1, rfl⟩ := hk.iface
      go_wp2
      go_round
      case rel => exact ⟨k, hk⟩
      case measure =>
        have m1 := dep_eq hk
        have m2 := dep_eq (Ch.wrap f k _ s h hk)
        simp only [Array.getD_eq_getD_getElem?] at *
        simp
        omega
end Go.Proofs.YtpceoplkghnklaaDoor
namespace Go.Proofs.YtpceoplkghnklaaDoor
open Go.RowKit Go.Extern.Stop Go.Stop Go.Extern
set_option maxRecDepth 100000
abbrev Kp (w w' : World) : Prop := w.keptBut w' (fun _ => False)
theorem kp_drop {w w' : World} {B o : Nat} (h : w.keptBut w' (fun p => p = .cell B o)) (hB : w.heap.size ≤ B) : Kp w w' := by
  refine ⟨h.1, h.2.1, fun i hi => ?_⟩
  have x := h.2.2 i hi
  have hne : ∀ j : Nat, ¬ (MemPlace.cell i j = .cell B o) := fun j e => by injection e with e1 e2; omega
  cases ha : w.heap[i]? with
  | none => rw [ha] at x; exact x
  | some oa =>
    cases hb : w'.heap[i]? with
    | none => rw [ha, hb] at x; cases oa <;> simp at x
    | some ob =>
      rw [ha, hb] at x
      cases oa <;> cases ob <;> first | exact ⟨x.1, x.2.1, x.2.2.1, fun j _ => x.2.2.2 j (hne j)⟩ | exact x.elim (fun e => by cases e) .inr | exact x
theorem kp_heap {w w' : World} (h : Kp w w') {i : Nat} {c : Array Value} {t : TypeId} (hc : w.heap[i]? = some (Obj.cells c t (0, 0))) : w'.heap[i]? = some (Obj.cells c t (0, 0)) := by
  have hlt : i < w.heap.size := by
    rcases Nat.lt_or_ge i w.heap.size with h2 | h2
    · exact h2
    · rw [Array.getElem?_eq_none h2] at hc; cases hc
  have x := h.2.2 i hlt
  rw [hc] at x
  cases hb : w'.heap[i]? with
  | none => rw [hb] at x; simp at x
  | some ob =>
    rw [hb] at x
    cases ob with
    | cells c' t' fr =>
      obtain ⟨rfl, rfl, h3, h4⟩ := x
      have : c' = c := Array.ext_getElem? (fun j => h4 j (fun e => e))
      rw [this]
    | _ => simp at x
theorem kp_cell {w w' : World} (h : Kp w w') {a : Addr} {x : Value} (hc : w.cell? a = some x) : w'.cell? a = some x := by
  have hlt := size_of hc
  have y := h.2.2 a.block hlt
  unfold World.cell? at hc ⊢
  cases ha : w.heap[a.block]? with
  | none => simp [ha] at hc
  | some oa =>
    rw [ha] at y
    cases hb : w'.heap[a.block]? with
    | none => rw [hb] at y; cases oa <;> simp at y
    | some ob =>
      rw [hb] at y
      cases oa with
      | cells c t fr =>
        cases ob with
        | cells c' t' fr' =>
          obtain ⟨rfl, rfl, h3, h4⟩ := y
          have : c' = c := Array.ext_getElem? (fun j => h4 j (fun e => e))
          subst this
          simpa [ha, hb] using hc
        | _ => simp at y
      | _ => simp [ha] at hc
theorem Ch.kp {w w' : World} {b : Nat} {code line : Int} {v : Value} {n : Nat} (h : Kp w w') (hv : Ch w b code line v n) : Ch w' b code line v n := hv.mono (fun _ _ _ e => kp_heap h e)
theorem Ch.root {w : World} {b : Nat} {code line : Int} {v : Value} {n : Nat} (hv : Ch w b code line v n) : w.heap[b]? = some (Obj.cells #[.int .i64 code, .int .i64 line] 38 (0, 0)) := by
  induction hv with
  | base h => exact h
  | wrap d n v s h hv ih => exact ih
theorem kp_drew (w : World) (q : Nat) : Kp w (w.drewN q) := by
  have h := World.keptBut_refl w (fun _ => False)
  exact ⟨rfl, rfl, h.2.2⟩
theorem asW_kept (w : World) (t : Addr) (b : Nat) : w.keptBut (asW w t b) (fun p => p = .cell t.block t.off) :=
  World.keptBut_trans (World.keptBut_trans (World.keptBut_trans (World.keptBut_trans (World.keptBut_alloc _ _ _) (World.keptBut_alloc _ _ _)) (World.keptBut_alloc _ _ _)) (World.keptBut_alloc _ _ _)) (World.keptBut_setCell _ _ _ rfl)
abbrev codeW (w : World) (b : Nat) : World := asW (w.alloc (.cells #[.pointer none] 36)) ⟨w.heap.size, 0, none⟩ b
theorem codeW_kp (w : World) (b : Nat) : Kp w (codeW w b) := kp_drop (World.keptBut_trans (World.keptBut_alloc _ _ _) (asW_kept _ _ _)) (Nat.le_refl _)
theorem kp_four (w : World) (o1 o2 o3 o4 : Obj) : Kp w ((((w.alloc o1).alloc o2).alloc o3).alloc o4) := World.keptBut_trans (World.keptBut_trans (World.keptBut_trans (World.keptBut_alloc _ _ _) (World.keptBut_alloc _ _ _)) (World.keptBut_alloc _ _ _)) (World.keptBut_alloc _ _ _)
abbrev V0 (w : World) : Prop := w.cell? ⟨0, 0, none⟩ = some (.iface 62 (.agg #[.pointer (some ⟨4, 26, none⟩)]))
theorem new_zero (line : Int) (w : World) : Calls Tryd.prog 6 #[.int .i64 0, .int .i64 line] w fun e w' => e = .returned .nilIface ∧ w' = w := by
  go_enter Tryd.func6, Tryd.ntmps6
  go_wp2
  go_ret
  exact ⟨rfl, rfl⟩
theorem new_some (code line : Int) (w : World) (h : ¬ code = 0) : Calls Tryd.prog 6 #[.int .i64 code, .int .i64 line] w fun e w' => e = .returned (.iface 36 (.pointer (some ⟨w.heap.size, 0, none⟩))) ∧ w' = w.alloc (.cells #[.int .i64 code, .int .i64 line] 38) := by
  go_enter Tryd.func6, Tryd.ntmps6
  go_wp2
  go_ret
  exact ⟨rfl, rfl⟩
theorem wrap_nil (s : ByteArray) (w : World) : Calls Tryd.prog 7 #[.nilIface, .string s] w fun e w' => e = .returned .nilIface ∧ w' = w := by
  go_enter Tryd.func7, Tryd.ntmps7
  go_wp2
  go_ret
  exact ⟨rfl, rfl⟩
theorem wrap_some (t : TypeId) (x : Value) (s : ByteArray) (w : World) : Calls Tryd.prog 7 #[.iface t x, .string s] w fun e w' => e = .returned (.iface 39 (.pointer (some ⟨w.heap.size, 0, none⟩))) ∧ w' = w.alloc (.cells #[.iface t x, .string s] 41) := by
  go_enter Tryd.func7, Tryd.ntmps7
  go_wp2
  go_ret
  exact ⟨rfl, rfl⟩
theorem code_nil (w : World) : Calls Tryd.prog 10 #[.nilIface] w fun e w' => e = .returned (.int .i64 0) ∧ Kp w w' := by
  go_enter Tryd.func10, Tryd.ntmps10
  go_wp2_with (first | (go_at_call 14; refine (as_nil _ _).mono ?_; rintro e w' ⟨rfl, rfl⟩))
  go_ret
  exact ⟨rfl, World.keptBut_alloc _ _ _⟩
theorem line_nil (w : World) : Calls Tryd.prog 11 #[.nilIface] w fun e w' => e = .returned (.int .i64 0) ∧ Kp w w' := by
  go_enter Tryd.func11, Tryd.ntmps11
  go_wp2_with (first | (go_at_call 14; refine (as_nil _ _).mono ?_; rintro e w' ⟨rfl, rfl⟩))
  go_ret
  exact ⟨rfl, World.keptBut_alloc _ _ _⟩
theorem code_chain {w : World} {b : Nat} {code line : Int} {v : Value} {n : Nat} (hg : V0 w) (hv : Ch w b code line v n) : Calls Tryd.prog 10 #[v] w fun e w' => e = .returned (.int .i64 code) ∧ Kp w w' := by
  have k0 : Kp w (w.alloc (.cells #[.pointer none] 36)) := World.keptBut_alloc _ _ _
  have L := as_chain (hv.kp k0) ⟨w.heap.size, 0, none⟩ (.pointer none) (kp_cell k0 hg) (by simp) (by simp)
  have kC := codeW_kp w b
  have c0 := cell_of (k := 0) (hv.kp kC).root rfl
  have cT : (codeW w b).cell? ⟨w.heap.size, 0, none⟩ = some (.pointer (some ⟨b, 0, none⟩)) :=
    World.cell?_setCell_same _ _ _ (u := .pointer none) (kp_cell (kp_four (w.alloc (.cells #[.pointer none] 36)) _ _ _ _) (by simp))
  unfold codeW at kC c0 cT
  generalize asW (w.alloc (.cells #[.pointer none] 36)) ⟨w.heap.size, 0, none⟩ b = W' at L kC c0 cT
  go_enter Tryd.func10, Tryd.ntmps10
  go_wp2_with (first | (go_at_call 14; refine L.mono ?_; rintro e w' ⟨rfl, rfl⟩))
  go_ret
  exact ⟨rfl, kC⟩
theorem line_chain {w : World} {b : Nat} {code line : Int} {v : Value} {n : Nat} (hg : V0 w) (hv : Ch w b code line v n) : Calls Tryd.prog 11 #[v] w fun e w' => e = .returned (.int .i64 line) ∧ Kp w w' := by
  have k0 : Kp w (w.alloc (.cells #[.pointer none] 36)) := World.keptBut_alloc _ _ _
  have L := as_chain (hv.kp k0) ⟨w.heap.size, 0, none⟩ (.pointer none) (kp_cell k0 hg) (by simp) (by simp)
  have kC := codeW_kp w b
  have c0 := cell_of (k := 1) (hv.kp kC).root rfl
  have cT : (codeW w b).cell? ⟨w.heap.size, 0, none⟩ = some (.pointer (some ⟨b, 0, none⟩)) :=
    World.cell?_setCell_same _ _ _ (u := .pointer none) (kp_cell (kp_four (w.alloc (.cells #[.pointer none] 36)) _ _ _ _) (by simp))
  unfold codeW at kC c0 cT
  generalize asW (w.alloc (.cells #[.pointer none] 36)) ⟨w.heap.size, 0, none⟩ b = W' at L kC c0 cT
  go_enter Tryd.func11, Tryd.ntmps11
  go_wp2_with (first | (go_at_call 14; refine L.mono ?_; rintro e w' ⟨rfl, rfl⟩))
  go_ret
  exact ⟨rfl, kC⟩
theorem eis_nil (d : Nat) (w : World) : Calls Tryd.prog 15 #[.nilIface, .iface 36 (.pointer (some ⟨d, 0, none⟩))] w fun e w' => e = .returned (.bool false) ∧ w' = w := by
  have hn := run_eql_iface_nil_left (P := Tryd.prog) w 36 (.pointer (some ⟨d, 0, none⟩)) Tryd.underlying26
  go_enter Tryd.func15, Tryd.ntmps15
  go_wp2
  go_ret
  exact ⟨rfl, rfl⟩
def compM : Array Value → Sem Value := Extern.ReflectliteType.method fun t => do Extern.Rtype.noPackHeld "Comparable" t; pure (.bool (← typeInfo t).comparable)
theorem rComp (w : World) : (compM #[.agg #[.pointer (some ⟨4, 36, none⟩)]]).run Tryd.prog w = .ok (.bool true) w := by kernel_rfl
theorem eis_chain {w : World} {b d : Nat} {code line code2 line2 : Int} {v : Value} {n : Nat} (hv : Ch w b code line v n) (hne : b ≠ d) (hd : w.heap[d]? = some (.cells #[.int .i64 code2, .int .i64 line2] 38 (0, 0))) :
    Calls Tryd.prog 15 #[v, .iface 36 (.pointer (some ⟨d, 0, none⟩))] w fun e w' => e = .returned (.bool (decide (code2 = code))) ∧ ∃ q, w' = w.drewN q := by
  have h20 := @run_callFunc_extern Tryd.prog 20 _ ReflectliteType.typeOf Tryd.func20 (by kernel_rfl) (by kernel_rfl) (by kernel_rfl) (by kernel_rfl)
  have h64 := @run_callFunc_extern Tryd.prog 64 _ compM Tryd.func64 (by kernel_rfl) (by kernel_rfl) (by kernel_rfl) (by kernel_rfl)
  have tT := rTypeOf
  have cT := rComp
  have mR := rMethodComparable
  have L := is_loop hv hne hd
  obtain ⟨t1, x1, rfl⟩ := hv.iface
  go_enter Tryd.func15, Tryd.ntmps15
  go_wp2_with (first | (go_at_call 21; refine L.mono ?_; rintro e w' ⟨rfl, q, rfl⟩))
  go_ret
  exact ⟨rfl, q, rfl⟩
theorem fis_zero (v : Value) (w : World) : Calls Tryd.prog 12 #[v, .int .i64 0] w fun e w' => e = .returned (.bool false) ∧ w' = w := by
  go_enter Tryd.func12, Tryd.ntmps12
  go_wp2
  go_ret
  exact ⟨rfl, rfl⟩
theorem fis_nil (code : Int) (w : World) : Calls Tryd.prog 12 #[.nilIface, .int .i64 code] w fun e w' => e = .returned (.bool false) ∧ Kp w w' := by
  by_cases h : code = 0
  · subst h
    exact (fis_zero _ _).mono (fun e w' ⟨h1, h2⟩ => ⟨h1, by rw [h2]; exact World.keptBut_refl _ _⟩)
  · go_enter Tryd.func12, Tryd.ntmps12
    go_wp2_with (first | (go_at_call 6; refine (new_some _ _ _ h).mono ?_; rintro e w' ⟨rfl, rfl⟩) | (go_at_call 15; refine (eis_nil _ _).mono ?_; rintro e w' ⟨rfl, rfl⟩))
    go_ret
    exact ⟨rfl, World.keptBut_alloc _ _ _⟩
theorem fis_chain {w : World} {b : Nat} {code line : Int} {v : Value} {n : Nat} (code2 : Int) (h : ¬ code2 = 0) (hv : Ch w b code line v n) : Calls Tryd.prog 12 #[v, .int .i64 code2] w fun e w' => e = .returned (.bool (decide (code2 = code))) ∧ Kp w w' := by
  have hlt : b < w.heap.size := by
    rcases Nat.lt_or_ge b w.heap.size with h2 | h2
    · exact h2
    · have := hv.root; rw [Array.getElem?_eq_none h2] at this; cases this
  have k0 : Kp w (w.alloc (.cells #[.int .i64 code2, .int .i64 0] 38)) := World.keptBut_alloc _ _ _
  have L := eis_chain (d := w.heap.size) (line2 := 0) (code2 := code2) (hv.kp k0) (Nat.ne_of_lt hlt) (by show (w.heap.push _)[w.heap.size]? = _; simp)
  go_enter Tryd.func12, Tryd.ntmps12
  go_wp2_with (first | (go_at_call 6; refine (new_some _ _ _ h).mono ?_; rintro e w' ⟨rfl, rfl⟩) | (go_at_call 15; refine L.mono ?_; rintro e w' ⟨rfl, q, rfl⟩))
  go_ret
  exact ⟨by simp [h], World.keptBut_trans k0 (kp_drew _ q)⟩
end Go.Proofs.YtpceoplkghnklaaDoor
namespace Go.Proofs.YtpceoplkghnklaaDoor
open Go.RowKit Go.Extern.Stop Go.Stop Go.Extern
set_option maxRecDepth 100000
theorem kp_drw (w : World) : Kp w w.drew := by
  have h := World.keptBut_refl w (fun _ => False)
  exact ⟨rfl, rfl, h.2.2⟩
theorem itoa_2 (w : World) : Calls Tryd.prog 43 #[.int .i64 2] w fun e w' => e = .returned (.string ⟨#[50]⟩) ∧ w' = w := by
  go_enter Tryd.func43, Tryd.ntmps43
  go_wp2
  go_ret
  exact ⟨rfl, rfl⟩
theorem itoa_3 (w : World) : Calls Tryd.prog 43 #[.int .i64 3] w fun e w' => e = .returned (.string ⟨#[51]⟩) ∧ w' = w := by
  go_enter Tryd.func43, Tryd.ntmps43
  go_wp2
  go_ret
  exact ⟨rfl, rfl⟩
/-- error 2 line 3 -/
def t23 : ByteArray := ⟨#[101, 114, 114, 111, 114, 32, 50, 32, 108, 105, 110, 101, 32, 51]⟩
theorem e23 : (({ data := #[101, 114, 114, 111, 114, 32] } : ByteArray) ++ { data := #[50] } ++ (({ data := #[32, 108, 105, 110, 101, 32] } : ByteArray) ++ { data := #[51] })) = t23 := by decide +kernel
theorem ferr_23 {w : World} {b : Nat} (hb : w.heap[b]? = some (.cells #[.int .i64 2, .int .i64 3] 38 (0, 0))) :
    Calls Tryd.prog 41 #[.pointer (some ⟨b, 0, none⟩)] w fun e w' => e = .returned (.string t23) ∧ w' = w := by
  have c0 := cell_of (k := 0) hb rfl
  have c1 := cell_of (k := 1) hb rfl
  go_enter Tryd.func41, Tryd.ntmps41
  go_wp2_with (first | (go_at_call 43; refine (itoa_2 _).mono ?_; rintro e w' ⟨rfl, rfl⟩) | (go_at_call 43; refine (itoa_3 _).mono ?_; rintro e w' ⟨rfl, rfl⟩))
  go_ret
  exact ⟨congrArg (fun x => Ending.returned (Value.string x)) e23, rfl⟩
/-- read: error 2 line 3 -/
def tr23 : ByteArray := ⟨#[114, 101, 97, 100, 58, 32, 101, 114, 114, 111, 114, 32, 50, 32, 108, 105, 110, 101, 32, 51]⟩
theorem er23 : (({ data := #[114, 101, 97, 100] } : ByteArray) ++ { data := #[58, 32] } ++ t23) = tr23 := by decide +kernel
theorem s23 : t23.size = 14 := by decide +kernel
theorem werr_23 {w : World} {b d : Nat} (hb : w.heap[b]? = some (.cells #[.int .i64 2, .int .i64 3] 38 (0, 0))) (hd : w.heap[d]? = some (.cells #[.iface 36 (.pointer (some ⟨b, 0, none⟩)), .string ⟨#[114, 101, 97, 100]⟩] 41 (0, 0))) :
    Calls Tryd.prog 57 #[.pointer (some ⟨d, 0, none⟩)] w fun e w' => e = .returned (.string tr23) ∧ Kp w w' := by
  have c0 := cell_of (k := 0) hd rfl
  have c1 := cell_of (k := 1) hd rfl
  have m := mErrorF
  go_enter Tryd.func57, Tryd.ntmps57
  go_wp2
  go_region_with (go_at_call 41; refine (ferr_23 ?_).mono ?_; exact hb; rintro e w' ⟨rfl, rfl⟩)
  all_goals (try go_wp2)
  all_goals (go_ret)
  all_goals (refine ⟨congrArg (fun x => Ending.returned (Value.string x)) er23, ?_⟩)
  all_goals exact kp_drw _
theorem text_23 {w : World} {b d : Nat} (hb : w.heap[b]? = some (.cells #[.int .i64 2, .int .i64 3] 38 (0, 0))) (hd : w.heap[d]? = some (.cells #[.iface 36 (.pointer (some ⟨b, 0, none⟩)), .string ⟨#[114, 101, 97, 100]⟩] 41 (0, 0))) :
    Calls Tryd.prog 8 #[.iface 39 (.pointer (some ⟨d, 0, none⟩))] w fun e w' => e = .returned (.string tr23) ∧ Kp w w' := by
  have m := mErrorW
  go_enter Tryd.func8, Tryd.ntmps8
  go_wp2_with (go_at_call 57; refine (werr_23 hb hd).mono ?_; rintro e w' ⟨rfl, k⟩)
  go_ret
  exact ⟨rfl, k⟩
structure SitA (W0 w : World) (b d : Nat) : Prop where
  kp : Kp W0 w
  g : V0 w
  hb : w.heap[b]? = some (.cells #[.int .i64 2, .int .i64 3] 38 (0, 0))
  hd : w.heap[d]? = some (.cells #[.iface 36 (.pointer (some ⟨b, 0, none⟩)), .string ⟨#[114, 101, 97, 100]⟩] 41 (0, 0))
theorem SitA.on {W0 w w' : World} {b d : Nat} (S : SitA W0 w b d) (k : Kp w w') : SitA W0 w' b d := ⟨World.keptBut_trans S.kp k, kp_cell k S.g, kp_heap k S.hb, kp_heap k S.hd⟩
theorem SitA.ch {W0 w : World} {b d : Nat} (S : SitA W0 w b d) : Ch w b 2 3 (.iface 39 (.pointer (some ⟨d, 0, none⟩))) 1 := .wrap _ _ _ _ S.hd (.base S.hb)
theorem sitA (w : World) (hg : V0 w) : SitA w ((w.alloc (.cells #[.int .i64 2, .int .i64 3] 38)).alloc (.cells #[.iface 36 (.pointer (some ⟨w.heap.size, 0, none⟩)), .string ⟨#[114, 101, 97, 100]⟩] 41)) w.heap.size (w.heap.size + 1) := by
  have k1 : Kp w (w.alloc (.cells #[.int .i64 2, .int .i64 3] 38)) := World.keptBut_alloc _ _ _
  have k2 : Kp (w.alloc (.cells #[.int .i64 2, .int .i64 3] 38)) ((w.alloc (.cells #[.int .i64 2, .int .i64 3] 38)).alloc (.cells #[.iface 36 (.pointer (some ⟨w.heap.size, 0, none⟩)), .string ⟨#[114, 101, 97, 100]⟩] 41)) := World.keptBut_alloc _ _ _
  refine ⟨World.keptBut_trans k1 k2, kp_cell (World.keptBut_trans k1 k2) hg, kp_heap k2 (by show (w.heap.push _)[w.heap.size]? = _; simp), ?_⟩
  show ((w.heap.push _).push _)[w.heap.size + 1]? = _
  rw [Array.getElem?_push, if_pos (by simp)]
end Go.Proofs.YtpceoplkghnklaaDoor
namespace Go.Proofs.YtpceoplkghnklaaDoor
open Go.RowKit Go.Extern.Stop Go.Stop Go.Extern
set_option maxRecDepth 100000
theorem heap_new (w : World) (o : Obj) : (w.alloc o).heap[w.heap.size]? = some o := by show (w.heap.push _)[w.heap.size]? = _; simp
theorem new_k (code line : Int) (w : World) (h : ¬ code = 0) : Calls Tryd.prog 6 #[.int .i64 code, .int .i64 line] w fun e w' => ∃ b, e = .returned (.iface 36 (.pointer (some ⟨b, 0, none⟩))) ∧ Kp w w' ∧ w'.heap[b]? = some (.cells #[.int .i64 code, .int .i64 line] 38 (0, 0)) :=
  (new_some code line w h).mono (fun e w' ⟨h1, h2⟩ => ⟨w.heap.size, h1, by rw [h2]; exact World.keptBut_alloc _ _ _, by rw [h2]; exact heap_new _ _⟩)
theorem wrap_k (t : TypeId) (x : Value) (s : ByteArray) (w : World) : Calls Tryd.prog 7 #[.iface t x, .string s] w fun e w' => ∃ d, e = .returned (.iface 39 (.pointer (some ⟨d, 0, none⟩))) ∧ Kp w w' ∧ w'.heap[d]? = some (.cells #[.iface t x, .string s] 41 (0, 0)) :=
  (wrap_some t x s w).mono (fun e w' ⟨h1, h2⟩ => ⟨w.heap.size, h1, by rw [h2]; exact World.keptBut_alloc _ _ _, by rw [h2]; exact heap_new _ _⟩)
theorem etr : (tr23.toList == [114, 101, 97, 100, 58, 32, 101, 114, 114, 111, 114, 32, 50, 32, 108, 105, 110, 101, 32, 51]) = true := by decide +kernel
set_option maxHeartbeats 400000 in
theorem awake_c {w : World} (hg : V0 w) : Calls Tryd.prog 5 #[] w fun e w' => e = .returned (.bool true) ∧ Kp w w' := by
  go_enter Tryd.func5, Tryd.ntmps5
  go_wp2_with (first
    | (go_at_call 6; refine (new_k 2 3 _ (by decide)).mono ?_; rintro e w1 ⟨b, rfl, k1, hb⟩)
    | (go_at_call 7; refine (wrap_k _ _ _ _).mono ?_; rintro e w2 ⟨d, rfl, k2, hd⟩; have S : SitA w w2 b d := ⟨World.keptBut_trans k1 k2, kp_cell k2 (kp_cell k1 hg), kp_heap k2 hb, hd⟩; clear hb hd k1 k2)
    | (go_at_call 10; refine (code_chain S.g S.ch).mono ?_; rintro e w3 ⟨rfl, k3⟩; replace S := S.on k3; clear k3)
    | (go_at_call 11; refine (line_chain S.g S.ch).mono ?_; rintro e w3 ⟨rfl, k3⟩; replace S := S.on k3; clear k3)
    | (go_at_call 12; refine (fis_chain _ ?_ S.ch).mono ?_; decide; rintro e w3 ⟨rfl, k3⟩; replace S := S.on k3; clear k3)
    | (go_at_call 8; refine (text_23 S.hb S.hd).mono ?_; rintro e w3 ⟨rfl, k3⟩; replace S := S.on k3; clear k3))
  go_ret
  exact ⟨congrArg (fun x => Ending.returned (Value.bool x)) etr, S.kp⟩
end Go.Proofs.YtpceoplkghnklaaDoor
namespace Go.Proofs.YtpceoplkghnklaaDoor
open Go.RowKit Go.Extern.Stop Go.Stop Go.Extern
set_option maxRecDepth 100000
structure SitB (W0 w : World) (b : Nat) (code line : Int) (v : Value) : Prop where
  kp : Kp W0 w
  g : V0 w
  ch : ∃ n, Ch w b code line v n
theorem SitB.on {W0 w w' : World} {b : Nat} {code line : Int} {v : Value} (S : SitB W0 w b code line v) (k : Kp w w') : SitB W0 w' b code line v := ⟨World.keptBut_trans S.kp k, kp_cell k S.g, S.ch.elim (fun n h => ⟨n, h.kp k⟩)⟩
theorem SitB.wrap {W0 w w' : World} {b d : Nat} {code line : Int} {v : Value} {s : ByteArray} (S : SitB W0 w b code line v) (k : Kp w w') (hd : w'.heap[d]? = some (Obj.cells #[v, .string s] 41 (0, 0))) : SitB W0 w' b code line (.iface 39 (.pointer (some ⟨d, 0, none⟩))) :=
  ⟨World.keptBut_trans S.kp k, kp_cell k S.g, S.ch.elim (fun n h => ⟨n + 1, .wrap _ _ _ _ hd (h.kp k)⟩)⟩
theorem SitB.iface {W0 w : World} {b : Nat} {code line : Int} {v : Value} (S : SitB W0 w b code line v) : ∃ t x, v = .iface t x := S.ch.elim (fun _ h => h.iface)
abbrev tm (times : Int) : Int := IntKind.i64.wrap (IntKind.u8.wrap (times.tmod 40))
theorem fis_all {w : World} {b : Nat} {code line : Int} {v : Value} {n : Nat} (code2 : Int) (hc : ¬ code = 0) (hv : Ch w b code line v n) : Calls Tryd.prog 12 #[v, .int .i64 code2] w fun e w' => e = .returned (.bool (decide (code2 = code))) ∧ Kp w w' := by
  by_cases h : code2 = 0
  · subst h
    rw [decide_eq_false (fun e => hc e.symm)]
    exact (fis_zero _ _).mono (fun e w' ⟨h1, h2⟩ => ⟨h1, by rw [h2]; exact World.keptBut_refl _ _⟩)
  · exact fis_chain code2 h hv
set_option maxHeartbeats 1000000 in
theorem chain_law {w : World} (hg : V0 w) (code other line times : Int) (hc : ¬ code = 0) (ht : 0 ≤ times ∧ times ≤ 255) : Calls Tryd.prog 4 #[.int .i64 code, .int .i64 other, .int .i64 line, .int .u8 times] w fun e w' => e = .returned (.bool true) ∧ Kp w w' := by
  go_enter Tryd.func4, Tryd.ntmps4
  go_wp2_with (first
    | (go_at_call 5; refine (awake_c hg).mono ?_; rintro e w1 ⟨rfl, k1⟩)
    | (go_at_call 6; refine (new_k code line _ hc).mono ?_; rintro e w2 ⟨b, rfl, k2, hb⟩; have S : SitB w w2 b code line (.iface 36 (.pointer (some ⟨b, 0, none⟩))) := ⟨World.keptBut_trans k1 k2, kp_cell k2 (kp_cell k1 hg), 0, .base hb⟩; clear hb k1 k2))
  go_loopw [9, 10] (fun v i wr => SitB w wr b code line v ∧ ∃ k : Nat, k ≤ 40 ∧ i = .int .i64 k) (fun _ i _ => 41 - (intOf i).toNat)
  case atStart => exact ⟨S, 0, by omega, rfl⟩
  case round =>
    obtain ⟨S1, k, hk, rfl⟩ := hrel
    have hi := S1.iface
    obtain ⟨t1, x1, rfl⟩ := hi
    have htm : tm times = times % 40 := by
      have e1 : times.tmod 40 = times % 40 := Int.tmod_eq_emod_of_nonneg ht.1
      have e2 : IntKind.u8.wrap (times % 40) = times % 40 := by unfold IntKind.wrap; simp [IntKind.bits, IntKind.signed]; omega
      unfold tm
      rw [e1, e2, IntWalk.i64_in _ ⟨by omega, by omega⟩]
    unfold tm at htm
    go_wp2_with (go_at_call 7; refine (wrap_k _ _ _ _).mono ?_; rintro e w3 ⟨d, rfl, k3, hd⟩; replace S1 := S1.wrap k3 hd; clear k3 hd)
    · exact ⟨⟨S1, k + 1, by omega, by simp⟩, by simp [intOf]; omega⟩
    · obtain ⟨n, hch⟩ := S1.ch
      go_wp2_with (first
        | (go_at_call 10; guard_target = Calls _ _ #[Value.nilIface] _ _; refine (code_nil _).mono ?_; rintro e w3 ⟨rfl, k3⟩; replace S1 := S1.on k3; replace hch := hch.kp k3; clear k3)
        | (go_at_call 10; guard_target = Calls _ _ #[Value.iface _ _] _ _; refine (code_chain S1.g hch).mono ?_; rintro e w3 ⟨rfl, k3⟩; replace S1 := S1.on k3; replace hch := hch.kp k3; clear k3)
        | (go_at_call 11; guard_target = Calls _ _ #[Value.nilIface] _ _; refine (line_nil _).mono ?_; rintro e w3 ⟨rfl, k3⟩; replace S1 := S1.on k3; replace hch := hch.kp k3; clear k3)
        | (go_at_call 11; guard_target = Calls _ _ #[Value.iface _ _] _ _; refine (line_chain S1.g hch).mono ?_; rintro e w3 ⟨rfl, k3⟩; replace S1 := S1.on k3; replace hch := hch.kp k3; clear k3)
        | (go_at_call 12; guard_target = Calls _ _ #[Value.nilIface, _] _ _; refine (fis_nil _ _).mono ?_; rintro e w3 ⟨rfl, k3⟩; replace S1 := S1.on k3; replace hch := hch.kp k3; clear k3)
        | (go_at_call 12; guard_target = Calls _ _ #[Value.iface _ _, _] _ _; refine (fis_all _ hc hch).mono ?_; rintro e w3 ⟨rfl, k3⟩; replace S1 := S1.on k3; replace hch := hch.kp k3; clear k3))
      all_goals go_ret
      all_goals refine ⟨?_, S1.kp⟩
      all_goals refine congrArg (fun x => Ending.returned (Value.bool x)) ?_
      all_goals (clear S1 hch)
      all_goals first
        | (simp [hc]; done)
        | (rename_i h1; simp at h1; simp [hc, h1]; done)
        | (simp; assumption)
set_option maxHeartbeats 1000000 in
theorem chain_zero {w : World} (hg : V0 w) (other line times : Int) (ht : 0 ≤ times ∧ times ≤ 255) : Calls Tryd.prog 4 #[.int .i64 0, .int .i64 other, .int .i64 line, .int .u8 times] w fun e w' => e = .returned (.bool true) ∧ Kp w w' := by
  go_enter Tryd.func4, Tryd.ntmps4
  go_wp2_with (first
    | (go_at_call 5; refine (awake_c hg).mono ?_; rintro e w1 ⟨rfl, k1⟩)
    | (go_at_call 6; refine (new_zero line _).mono ?_; rintro e w2 ⟨rfl, rfl⟩))
  go_loopw [9, 10] (fun v i wr => (Kp w wr ∧ v = .nilIface) ∧ ∃ k : Nat, k ≤ 40 ∧ i = .int .i64 k) (fun _ i _ => 41 - (intOf i).toNat)
  case atStart => exact ⟨⟨k1, rfl⟩, 0, by omega, rfl⟩
  case round =>
    obtain ⟨⟨S1, rfl⟩, k, hk, rfl⟩ := hrel
    have htm : tm times = times % 40 := by
      have e1 : times.tmod 40 = times % 40 := Int.tmod_eq_emod_of_nonneg ht.1
      have e2 : IntKind.u8.wrap (times % 40) = times % 40 := by unfold IntKind.wrap; simp [IntKind.bits, IntKind.signed]; omega
      unfold tm
      rw [e1, e2, IntWalk.i64_in _ ⟨by omega, by omega⟩]
    unfold tm at htm
    go_wp2_with (go_at_call 7; refine (wrap_nil _ _).mono ?_; rintro e w3 ⟨rfl, rfl⟩)
    · exact ⟨⟨⟨S1, rfl⟩, k + 1, by omega, by simp⟩, by simp [intOf]; omega⟩
    · go_wp2_with (first
        | (go_at_call 10; refine (code_nil _).mono ?_; rintro e w3 ⟨rfl, k3⟩; replace S1 := World.keptBut_trans S1 k3; clear k3)
        | (go_at_call 11; refine (line_nil _).mono ?_; rintro e w3 ⟨rfl, k3⟩; replace S1 := World.keptBut_trans S1 k3; clear k3)
        | (go_at_call 12; refine (fis_nil _ _).mono ?_; rintro e w3 ⟨rfl, k3⟩; replace S1 := World.keptBut_trans S1 k3; clear k3))
      all_goals go_ret
      all_goals refine ⟨?_, S1⟩
      all_goals first
        | rfl
        | (refine congrArg (fun x => Ending.returned (Value.bool x)) ?_; simp; done)
end Go.Proofs.YtpceoplkghnklaaDoor
namespace Go.Proofs.YtpceoplkghnklaaDoor
open Go.ChangeShapes Go.WideShapes Go.RowKit

theorem d_own : ownKnob Tryd.prog.godebug = none := by kernel_rfl
theorem d_et : Tryd.prog.globalNamed "errors.errorType" = some 0 := by kernel_rfl
theorem d_rt : (Tryd.prog.cutTypes.find? (·.1 == "internal/reflectlite.rtype")).map (·.2) = some 62 := by kernel_rfl
theorem d_oneRow : ((List.range 125).filter fun t => Tryd.prog.rowNamed t [101, 114, 114, 111, 114]) = [26] := by kernel_rfl
theorem d_size : Tryd.prog.types.size = 125 := by kernel_rfl
abbrev laidL : List (String × DataW Unit) := [("errors.errorType", Rows.laid_errors_errorType)]
theorem v0_of_laid {W : World} (h : laidMetH Tryd.prog laidL W) : V0 W := by
  have h' : laidMet Tryd.prog [] W ∧ handlesMet Tryd.prog laidL W := h
  obtain ⟨name, u, ty, e1, e2, e3, e4, e5⟩ := h'.2 _ (List.mem_singleton.2 rfl)
  have en : name = [101, 114, 114, 111, 114] := (Option.some.inj e1).symm
  subst en
  obtain rfl := Option.some.inj (d_rt.symm.trans e2)
  have hm : ty ∈ (List.range 125).filter fun t => Tryd.prog.rowNamed t [101, 114, 114, 111, 114] := List.mem_filter.2 ⟨List.mem_range.2 (by rw [← d_size]; exact e3), e4⟩
  rw [d_oneRow] at hm
  obtain rfl := List.mem_singleton.1 hm
  have hh : typeHandle Tryd.prog 26 = .pointer (some ⟨4, 26, none⟩) := by kernel_rfl
  rw [hh] at e5
  simpa using World.var?_cell d_et e5 0
noncomputable def laidWorld (os : Os) : World :=
  let w0 := World.holding Tryd.prog os ⟨#[], #[], []⟩
  { w0 with heap := w0.heap.modify 0 fun
      | .cells _ t frozen => .cells #[.iface 62 (.agg #[.pointer (some ⟨4, 26, none⟩)])] t frozen
      | o => o }
theorem laidWorld_met (os : Os) (args : Array Value) : laidMetH Tryd.prog laidL ((laidWorld os).forCall (fun _ _ => 0) ⟨#[], args, []⟩).memory :=
  laidMetH_of_parts (laidMet_nil _ _) (by kernel_rfl)
end Go.Proofs.YtpceoplkghnklaaDoor
namespace Go.Proofs.YtpceoplkghnklaaDoor
open Go.ChangeShapes Go.WideShapes Go.RowKit

set_option maxRecDepth 100000 in
theorem chain_lifted (os : Os) (started : os.Started) (H : Type) (enc : TypeId × Value → H) :
    ReturnsInHanded {} Tryd.checked os 4 .any (fun w args => (Rows.faultChainSpec.pre enc Tryd.prog Tryd.f4 [] false w args ∧ laidMetH Tryd.prog laidL w) ∧ sizedMet enc Tryd.prog Tryd.f4 (OpenSpec.ofChange Rows.faultChainSpec) false w args)
      (Rows.faultChainSpec.post enc Tryd.prog Tryd.f4 false true false false) := by
  refine returnsInHanded_of_change_and (C := Tryd.checked) (X := fun w _ => laidMetH Tryd.prog laidL w) (fun _ _ _ hh h => h.of_heap hh) d_own started (by kernel_rfl) Tryd.func4
    (ChangeSpec.witness_at (enc := enc) (C := Tryd.checked) (os := os) (X := fun w _ => laidMetH Tryd.prog laidL w) false (laidWorld os) #[.int .i64 0, .int .i64 0, .int .i64 0, .int .u8 0] 8 rfl (by kernel_rfl) (by kernel_rfl) (by kernel_rfl) (by kernel_rfl) (by kernel_rfl) (laidWorld_met os _)) ?_
  intro W base args ds gs before hval0 hW _ _ hL _
  have hval : ∀ (j : Nat) t v, Tryd.f4.params[j]? = some t → args[j]? = some v → Value.okWide Tryd.prog W .any base t v := hval0
  have hW' := hW
  obtain ⟨p, q, hA0, hV0, rfl, hfz, hnd⟩ := hW
  have hA : DataW.TrodAll enc Tryd.prog W 0 (fun _ => true) true Tryd.f4.params.toList args.toList ds p := hA0
  have hV : DataW.TrodVars enc Tryd.prog W (fun _ => true) [] gs q := hV0
  rw [Tryd.params4] at hA hval
  obtain ⟨v0, v1, v2, v3, d0, d1, d2, d3, p0, p1, p2, p3, rfl, rfl, rfl, h0, h1, h2, h3⟩ := trodAll_four hA
  obtain ⟨n0, rfl, rfl, rfl, w0⟩ := open_int Tryd.underlying22 (hval 0 22 v0 rfl rfl) h0
  obtain ⟨n1, rfl, rfl, rfl, w1⟩ := open_int Tryd.underlying22 (hval 1 22 v1 rfl rfl) h1
  obtain ⟨n2, rfl, rfl, rfl, w2⟩ := open_int Tryd.underlying3 (hval 2 3 v2 rfl rfl) h2
  obtain ⟨n3, rfl, rfl, rfl, w3⟩ := open_int Tryd.underlying5 (hval 3 5 v3 rfl rfl) h3
  have hg := v0_of_laid hL
  obtain ⟨rfl, rfl⟩ : gs = [] ∧ q = [] := by
    cases gs with
    | nil => exact ⟨rfl, hV⟩
    | cons g r => exact absurd hV (by intro h; cases h)
  have e1 : Rows.faultChainSpec.fn H ([.lit (.int .i64 n0), .lit (.int .i64 n1), .lit (.int .i64 n2), .lit (.int .u8 n3)] ++ []) = { results := [.lit (.bool true)], args := [.lit (.int .i64 n0), .lit (.int .i64 n1), .lit (.int .i64 n2), .lit (.int .u8 n3)] } := by simp [Rows.faultChainSpec]
  have ht : 0 ≤ n3 ∧ n3 ≤ 255 := by
    have h : IntKind.u8.min ≤ n3 ∧ n3 ≤ IntKind.u8.max := by simpa [Lit.wf] using w3
    have e1 : IntKind.u8.min = 0 := by decide
    have e2 : IntKind.u8.max = 255 := by decide
    rw [e1, e2] at h
    exact h
  have K : Calls Tryd.prog 4 #[.int .i64 n0, .int .i64 n1, .int .i64 n2, .int .u8 n3] W fun e w' => e = .returned (.bool true) ∧ Kp W w' := by
    by_cases h : n0 = 0
    · subst h; exact chain_zero hg n1 n2 n3 ht
    · exact chain_law hg n0 n1 n2 n3 h ht
  refine K.mono fun e W' ⟨he, hk⟩ => ?_
  subst he
  refine ⟨_, rfl, _, _, _, [], [], [], hW', ?_, ?_, ?_, ?_, fun h => by cases h⟩
  · rw [e1]; exact trodAll_mk1 (shut_bool Tryd.underlying4 true)
  · rw [e1]; exact trodAll_mk4 (shut_int Tryd.underlying22 w0) (shut_int Tryd.underlying22 w1) (shut_int Tryd.underlying3 w2) (shut_int Tryd.underlying5 w3)
  · rw [e1]; rfl
  · exact World.keptBut_mono (fun _ e => e.elim) hk
theorem chain_row : Rows.FaultChainSaid :=
  OpenClaim.holds_of_wide 4 Tryd.f4 rfl rfl rfl rfl rfl rfl rfl ⟨rfl, rfl, rfl, rfl, rfl⟩ rfl rfl rfl rfl rfl (by kernel_rfl) Tryd.func4 (by kernel_rfl)
    (of_decide_eq_true (by kernel_rfl)) (by unfold Func.isWrapper; rw [if_neg (of_decide_eq_false (by kernel_rfl))]; exact ⟨rfl, rfl⟩)
    (fun os started H enc _ => chain_lifted os started H enc)
end Go.Proofs.YtpceoplkghnklaaDoor
namespace Go.Proofs.YtpceoplkghnklaaDoor
open Go
theorem faultChain_holds : Rows.FaultChainCardSaid :=
  Claim7.holds_tied_plain_at .later [] [.handle] true (true, "df33a0060d049d1343213697785fbde3b456ae88b58979ae8c6e1d278e22ef82") true
    chain_row (fun _ h => by cases h) (by kernel_rfl) (fun _ h => by cases h) faultChain_row_tie rfl ⟨rfl, rfl⟩ (by kernel_rfl) rfl
    (fun f fn hf hfn => by
      obtain rfl : f = 4 := Option.some.inj ((show Tryd.prog.funcNamed "davit/davitlaw26.FaultChain" = some 4 by kernel_rfl).symm.trans hf) |>.symm
      obtain rfl : fn = Tryd.f4 := (Option.some.inj (Tryd.func4.symm.trans hfn)).symm
      exact ⟨by kernel_rfl, fun j t ht => by
        rw [Tryd.params4] at ht
        have h3 : t = 22 ∨ t = 3 ∨ t = 5 := by
          rcases j with _ | _ | _ | _ | j
          · exact .inl (by simpa using ht.symm)
          · exact .inl (by simpa using ht.symm)
          · exact .inr (.inl (by simpa using ht.symm))
          · exact .inr (.inr (by simpa using ht.symm))
          · simp at ht
        rcases h3 with h3 | h3 | h3
        · subst h3; exact (show Tryd.prog.wantsStandIn 22 = false by kernel_rfl)
        · subst h3; exact (show Tryd.prog.wantsStandIn 3 = false by kernel_rfl)
        · subst h3; exact (show Tryd.prog.wantsStandIn 5 = false by kernel_rfl)⟩)
    (by kernel_rfl)
end Go.Proofs.YtpceoplkghnklaaDoor
