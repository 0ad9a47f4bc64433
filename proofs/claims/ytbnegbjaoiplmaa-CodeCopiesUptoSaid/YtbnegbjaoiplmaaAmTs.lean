/- A call that needs nothing of the heap. -/
import Derived.Test.YtbnegbjaoiplmaaAmTr
set_option linter.unusedVariables false
set_option linter.unusedSimpArgs false
namespace Go.Am
open Go

theorem Spec.alone {P : Program} {g : FuncId} {σ : H} {v : V} (hv : Plain v) (h : Spec P g [] [] fun o s => o = .ret v) : Spec P g [] σ fun o s => s = σ ∧ o = .ret v := fun w ro m vs ha hσ => by
  have h1 : HeapOk w (fun B => B < w.heap.size) (fun _ => none) [] := ⟨fun b p hb => (by cases hb), fun b cells hb => (by simp at hb), fun b es hb => (by simp at hb), fun b1 b2 e1 e2 B1 D1 B2 D2 hne hb => (by simp at hb), fun B hB => hB, fun b B D hb => (by cases hb)⟩
  have ha' : ArgsR w (fun B => B < w.heap.size) (fun _ => none) [] vs := ⟨ha.1, fun j c v hj => (by simp at hj)⟩
  refine (h w _ _ vs ha' h1).mono fun e w' hp => ?_
  obtain ⟨o, s, ro', m', rfl, ho, _, hx, _, _⟩ := hp
  cases ho with
  | ret hvu =>
    have same : ∀ B, B < w.heap.size → w'.heap[B]? = w.heap[B]? := fun B hB => (hx.kro B hB).2
    have cellEq : ∀ (a : Addr), a.block < w.heap.size → w'.cell? a = w.cell? a := fun a ha => by simp only [World.cell?, same _ ha]
    have kp : Keeps w ro m w' ro m := ⟨fun _ h => h, fun B o x hB hc => by
      have hb := hσ.rob B hB
      rw [cellEq _ hb]; exact hc, fun _ _ h => h, fun b B D cs e _ hc => hx.shape B cs e hc⟩
    refine ⟨.ret v, σ, ro, m, ⟨rfl, rfl⟩, .ret (hvu.plain hv), ⟨hσ.dom, fun b cells hb => ?_, fun b es hb => ?_, hσ.inj, fun B hB => Nat.lt_of_lt_of_le (hσ.rob B hB) hx.size, fun b B D hb => Nat.lt_of_lt_of_le (hσ.mb b B D hb) hx.size⟩, ?_, fun _ _ => rfl, Nat.le_refl _⟩
    · obtain ⟨B, D, cs, e, k1, k2, k3, k4⟩ := hσ.row b cells hb
      refine ⟨B, D, cs, e, k1, k2, by rw [same B (hσ.mb b B D k1)]; exact k3, fun j c hj => ?_⟩
      obtain ⟨x, h5, h6⟩ := k4 j c hj
      exact ⟨x, h5, h6.keep kp⟩
    · obtain ⟨B, arr, clock, k1, k2, k3, k4, k5⟩ := hσ.mapE b es hb
      exact ⟨B, arr, clock, k1, k2, by rw [same B (hσ.mb b B 0 k1)]; exact k3, k4, fun j e a hj ha => ⟨(k5 j e a hj ha).1.keep kp, (k5 j e a hj ha).2.keep kp⟩⟩
    · exact ⟨hx.os, hx.tape, hx.output, hx.size, fun B hB => ⟨hB, same B (hσ.rob B hB)⟩, fun B hB _ => same B hB, fun b B D hb => .inl ⟨b, D, hb⟩, fun B hB => .inl hB, hx.shape, hx.fz⟩

end Go.Am
