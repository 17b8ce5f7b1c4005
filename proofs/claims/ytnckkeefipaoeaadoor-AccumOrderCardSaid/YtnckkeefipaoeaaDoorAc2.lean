/- A call that is tried: its deferred function finds no panic. -/
import Derived.Test.YtnckkeefipaoeaaDoorAc0
import Derived.Tactics
import Derived.Tactics2
import Derived.Defers
import Derived.Recover
import Derived.Laws.Pointers
set_option linter.unusedVariables false
set_option linter.unusedSimpArgs false
set_option maxRecDepth 100000
set_option maxHeartbeats 4000000
namespace Go.Proofs.Sd
open Go Go.Eng Go.Eng.HP Go.RowKit Go.Proofs

theorem tried_idle (p : Addr) (w : World) :
    CallsD Tryd.prog 59 #[.pointer (some p)] .returning w fun e u' w' => e = .returned (.tuple #[]) ∧ u' = .returning ∧ w' = w := by
  refine callsD_of_wpS Tryd.func59 rfl fun c₀ cs hu => ?_
  apply wpS_seq
  apply wpS_region
  simp [wpOpsS, go_sem, recoverD, hu, Tryd.ntmps59, Exit.thenS]
  refine wpS_of_wp ?_
  go_wp2
  cases c₀
  simp_all [bodyPostS, results, Tryd.results59]

theorem tried_runs (cap : Array Value) (w : World) (Q : World → Prop)
    (hg : Calls Tryd.prog 48 cap (w.alloc (.cells #[.int .i64 0] 36)) (fun e w' => e = .returned (.tuple #[]) ∧ Q w'))
    (hq : ∀ w', Q w' → w'.cell? ⟨w.heap.size, 0, none⟩ = some (.int .i64 0) ∧ w'.frozen? ⟨w.heap.size, 0, none⟩ = false) :
    Calls Tryd.prog 47 #[.func (.func 48) #[] cap] w (fun e w'' => ∃ w', Q w' ∧ e = .returned (.int .i64 0) ∧ w'' = w'.setCell ⟨w.heap.size, 0, none⟩ (.int .i64 0)) := by
  have hmf : ∀ (fn : Fn) (first cap : Array Value) (w : World), (Instr.makeFunc fn first cap).run Tryd.prog w = .ok (.func fn first cap) w := fun _ _ _ _ => rfl
  go_enter_defers Tryd.func47, Tryd.ntmps47
  go_wp2_with (go_at_call 48; refine hg.mono ?_; rintro e w' ⟨rfl, hq'⟩; obtain ⟨hc, hz⟩ := hq w' hq')
  refine leaves_cons (f := 59) (args := #[.pointer (some ⟨w.heap.size, 0, none⟩)]) (by intro hh; cases hh) (by rfl) ?_
  refine (tried_idle ⟨w.heap.size, 0, none⟩ _).mono ?_
  rintro e u' w'' ⟨rfl, rfl, rfl⟩
  have h2 : (w'.setCell ⟨w.heap.size, 0, none⟩ (.int .i64 0)).cell? ⟨w.heap.size, 0, none⟩ = some (.int .i64 0) := World.cell?_setCell_same _ _ _ hc
  simp [Leaves, settle, results, Tryd.results47, go_sem, h2, hc]
  exact ⟨w', hq', rfl⟩

/-- A call that is tried and does not break. -/
theorem tried {G : Gh} {w : World} {L L' : List HP} (cap : Array Value) (h : Holds G w (all L))
    (hc : ∀ {w : World} {b : Nat}, Holds G w (all (blk b t_api_Errno [.int .i64 0] :: L)) → Calls pg f_bson_Size_1 cap w (Ret fun v w' => v = .tuple #[] ∧ Holds G w' (all (blk b t_api_Errno [.int .i64 0] :: L')))) :
    Calls pg f_bson_tried #[.func (.func f_bson_Size_1) #[] cap] w (Ret fun v w' => v = .int .i64 0 ∧ Holds G w' (all L')) := by
  have h1 : Holds G (w.alloc (.cells #[.int .i64 0] 36)) (all (blk w.heap.size t_api_Errno [.int .i64 0] :: L)) :=
    Holds.blk_iff.2 ⟨(0, 0), fun i _ h => by simp at h, h.alloc _⟩
  refine (tried_runs cap w (fun w' => Holds G w' (all (blk w.heap.size t_api_Errno [.int .i64 0] :: L'))) ((hc h1).mono ?_) ?_).mono ?_
  · intro e w' he
    cases e with
    | returned v => exact ⟨by rw [he.1], he.2⟩
    | _ => exact he.elim
  · intro w' h'
    exact ⟨Holds.ld h' 0 rfl, Holds.unfrozen h' (by simp)⟩
  · rintro e w'' ⟨w', h', rfl, rfl⟩
    exact ⟨rfl, (Holds.setCell h' 0 (.int .i64 0)).right⟩
end Go.Proofs.Sd
