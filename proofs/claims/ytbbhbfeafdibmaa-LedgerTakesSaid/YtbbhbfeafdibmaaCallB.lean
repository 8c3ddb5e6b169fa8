/- A call in a region that draws its order, by its contract. -/
import Derived.Test.YtbbhbfeafdibmaaMem
namespace Go.Proofs.Ytbbhbfeafdibmaa
open Go.RowKit
section
variable {P : Program} {ops : Array Oper} {C : World → Prop} {Q : Act → Prop} {rest : List Oper} {o : Oper} {a : Act}
theorem q_callB {W : World} {f : FuncId} {fn : Func} {as : Array Operand} {ts : Array TypeId} {v : Value} {args : Array Value} (hc : ∀ w, Below W.heap.size W w → Calls P f args w fun e w' => e = .returned v ∧ Below w.heap.size w w') (hf : P.funcs[f]? = some fn) (hname : (fn.name == "runtime.NumGoroutine") = false) (hb : fn.body.isSome = true)
    (hop : o.op = .call { callee := .value (.func f), args := as, argTypes := ts }) (hw : Region.wanted o (yielded ops a.tmps) = true) (hargs : as.map a.eval = args) (hn : wpQuiet P ops (Below W.heap.size W) Q rest (a.put o.dst v)) : wpQuiet P ops (Below W.heap.size W) Q (o :: rest) a :=
  q_call args hop hf hname hb hw hargs (fun w hC => (hc w hC).mono fun _ _ hh => ⟨hh.1, hC.trans (hh.2.mono hC.size)⟩) hn
end
end Go.Proofs.Ytbbhbfeafdibmaa
