/- The document's examples of code: a closed run. -/
import Derived.Test.YtbnegbjaoiplmaaTw
import Derived.Test.YtbnegbjaoiplmaaTy
import Derived.Test.YtbnegbjaoiplmaaAmTs
namespace Go.Proofs.Ytbnegbjaoiplmaa
open Go Go.Am

def saysB (r : Option (Out × H)) (b : Bool) : Bool := match r with
  | some (.ret (.bool c), _) => c == b
  | _ => false

theorem awake6 : saysB (run Try.prog tab 200 40 6 [] []) true = true := by kernel_rfl

theorem f6 (σ : H) : Am.Spec Try.prog 6 [] σ (fun o s => s = σ ∧ o = .ret (.bool true)) := by
  refine Spec.alone trivial ?_
  have h := awake6
  unfold saysB at h
  split at h
  · rename_i c s hr
    have hc : c = true := by simpa using h
    subst hc
    exact (run_ok mixed tabOk 40 6 [] [] (.bool true) s hr).mono fun o s hq => hq.1
  · cases h
end Go.Proofs.Ytbnegbjaoiplmaa
