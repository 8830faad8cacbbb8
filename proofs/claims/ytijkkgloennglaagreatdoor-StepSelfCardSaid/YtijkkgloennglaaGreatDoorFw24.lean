/-
  The code's logic, one operation after another: what comes behind a call is looked at when its answer is there. No condition.
-/
import Derived.Test.YtijkkgloennglaaGreatDoorFw19
set_option linter.all false
namespace Go.Proofs.YtijkkgloennglaaGreatDoor.Ab
open Go Go.RowKit
section
variable {P : Program} {T : Tys}
/-- what is asked of a call's answer -/
def contW (P : Program) (T : Tys) (Q : Env → St → Prop) (l : List RI) (e : Env) (d : Option Tmp) : TV → St → Prop := fun x s' => WL P T Q l (e.put d x) s'
theorem contW_eq {Q : Env → St → Prop} {l : List RI} {e : Env} {d : Option Tmp} {x : TV} {s : St} : contW P T Q l e d x s = WL P T Q l (e.put d x) s := rfl
theorem WLd {Q : Env → St → Prop} {r : RI} {l : List RI} {e : Env} {s : St} : WL P T Q (r :: l) e s =
    match guardOk r.g e with
    | none => False
    | some false => WL P T Q l (if r.chk then e else e.put r.dst (.tup [])) s
    | some true =>
      if r.chk then ∃ x d, r.dst = some d ∧ stepOp T r.op e s = some (x, s) ∧ e.get d = some x ∧ WL P T Q l e s
      else match callOf r.op with
        | some (f, args) => match opd s.gl e f, opds s.gl e args.toList with
          | some (.v (.fn fid ps qs)), some xs => AC P fid (ptrVals ps ++ xs ++ ptrVals qs) s (contW P T Q l e r.dst)
          | _, _ => False
        | none => match stepOp T r.op e s with
          | some p => WL P T Q l (e.put r.dst p.1) p.2
          | none => False := WL_cons
end
end Go.Proofs.YtijkkgloennglaaGreatDoor.Ab
