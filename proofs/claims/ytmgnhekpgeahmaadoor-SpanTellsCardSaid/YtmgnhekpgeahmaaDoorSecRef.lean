/- seconds and near: the reference's reading of seconds. -/
import Derived.Test.YtmgnhekpgeahmaaDoorSecPlain
namespace Go.Proofs.YtmgnhekpgeahmaaDoor
open Go.Dur Go.Fl Go.RowKit

theorem results_tmp4 {fn : Func} {t u v x : Tmp} (h : fn.results = #[.tmp t, .tmp u, .tmp v, .tmp x]) (tmps : Array Value) (P : Program) (w : World) :
    (results fn tmps).run P w = .ok (.tuple #[tmps.getD t undef, tmps.getD u undef, tmps.getD v undef, tmps.getD x undef]) w := by
  simp [results, h]

def secV (s : ByteArray) : Value := if secOk s = true then .tuple #[.bool (minusB s), .string (wholeS s), .string (fracS s), .bool true] else .tuple #[.bool false, .string ⟨#[]⟩, .string ⟨#[]⟩, .bool false]

end Go.Proofs.YtmgnhekpgeahmaaDoor
