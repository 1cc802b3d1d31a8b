/- The awake example of the chapter, in every world that lays the table of powers of ten: it returns true. -/
import Derived.Test.YtkoahnikmckgnaaGreatDoorWzH0
import Derived.Test.YtkoahnikmckgnaaGreatDoorWzH1
import Derived.Test.YtkoahnikmckgnaaGreatDoorWzH2
import Derived.Test.YtkoahnikmckgnaaGreatDoorWzH3
import Derived.Test.YtkoahnikmckgnaaGreatDoorWzH4
import Derived.Test.YtkoahnikmckgnaaGreatDoorWzH5
import Derived.Test.YtkoahnikmckgnaaGreatDoorWzH6
import Derived.Test.YtkoahnikmckgnaaGreatDoorWzT
import Derived.WalkSmall
set_option linter.unusedSimpArgs false
set_option linter.unusedVariables false
namespace Go.Proofs.YtkoahnikmckgnaaGreatDoor.Ws
open Go Go.Proofs Go.RowKit
noncomputable section
set_option maxRecDepth 100000

def Tab (w : World) : Prop := Lib.TabIs Tryz.prog w "internal/strconv.uint64pow10" .u64 Lib.pow10Tab

theorem gTab : ∃ g, Tryz.prog.globalNamed "internal/strconv.uint64pow10" = some g := Option.isSome_iff_exists.1 (by kernel_rfl)

theorem Tab.up {W0 w : World} (h : Tab W0) (hb : Below W0.heap.size W0 w) : Tab w := by
  obtain ⟨g, hg⟩ := gTab
  have hlt : g < W0.heap.size := by
    have h := h
    unfold Tab Lib.TabIs World.var? at h
    rw [hg] at h
    simp only [Option.bind_some] at h
    cases hc : W0.heap[g]? with
    | none => rw [hc] at h; cases h
    | some o => exact (Array.getElem?_eq_some_iff.1 hc).1
  exact var?_below hb hg hlt h

theorem below_grow (w : World) (k : Nat) (os : Array Obj) : Below w.heap.size w (Sort.grow (w.drewN k) os) :=
  ⟨rfl, rfl, rfl, by simp [Sort.grow, World.drewN], fun j hj => by simp only [Sort.grow, World.drewN]; rw [Array.getElem?_append_left hj]⟩

theorem itoa_below {w : World} (h : Tab w) (n : Int) (h0 : -9223372036854775808 ≤ n) (h1 : n ≤ 9223372036854775807) :
    Calls Tryz.prog 12 #[.int .i64 n] w fun e w' => e = .returned (.string ⟨(Lib.itoa n).toArray⟩) ∧ Below w.heap.size w w' :=
  (Tryz.strconv_Itoa n h0 h1 w h).mono fun e w' ⟨he, k, os, hw⟩ => ⟨he, hw ▸ below_grow w k os⟩

def itK : Known := [([.int .i64 2], .string ⟨#[50]⟩), ([.int .i64 (-1)], .string ⟨#[45, 49]⟩)]
theorem itoa2 : Lib.itoa 2 = [50] := by simp [Lib.itoa, Lib.decDigits]
theorem itoaM : Lib.itoa (-1) = [45, 49] := by simp [Lib.itoa, Lib.decDigits]
theorem itK_ok {w : World} (h : Tab w) : ∀ p ∈ itK, OrcAt Tryz.prog 12 p.1 p.2 w := by
  intro p hp
  simp only [itK, List.mem_cons, List.not_mem_nil, or_false] at hp
  rcases hp with rfl | rfl
  · exact .inr ⟨Tryz.call12 _ _, by have := itoa_below h 2 (by omega) (by omega); rw [itoa2] at this; exact this⟩
  · exact .inr ⟨Tryz.call12 _ _, by have := itoa_below h (-1) (by omega) (by omega); rw [itoaM] at this; exact this⟩

def hps : List HpEntry := [hp0, hp1, hp2, hp3, hp4, hp5, hp6]
theorem hps_ok (W0 : World) : HpOk Tryz.prog W0 (hpOf hps) := hpOf_ok (E3_ok W0) 5000 hps fun p hp => by
  simp only [hps, List.mem_cons, List.not_mem_nil, or_false] at hp
  rcases hp with rfl | rfl | rfl | rfl | rfl | rfl | rfl
  · exact hp0_runs
  · exact hp1_runs
  · exact hp2_runs
  · exact hp3_runs
  · exact hp4_runs
  · exact hp5_runs
  · exact hp6_runs

def E5 : Env := mkH3 (orcAdd 12 itK orc3) setTpl (hpOf hps)
theorem E5_ok {W0 : World} (h : Tab W0) : E5.Ok Tryz.prog W0 :=
  mkH3_ok ((orc3_ok W0).add fun _ hw => itK_ok (h.up hw)) (setTpl_ok W0) (hps_ok W0)

theorem awake_run : runsTo (.bool true) (runFn E5 (aexec E5 5000) 4 (([] : List Value).map .raw) AH.zero) = true := by kernel_rfl

theorem awake_true {w : World} (h : Tab w) : Calls Tryz.prog 4 #[] w fun e w' => e = .returned (.bool true) ∧ Below w.heap.size w w' :=
  (ground_call (E5_ok h) 5000 awake_run).2

end
end Go.Proofs.YtkoahnikmckgnaaGreatDoor.Ws
