/- What a call must find in the package's variables; the contracts of word. -/
import Derived.Test.YtbeapjndgkjpeaaDoorEv
namespace Go.Proofs.YtbeapjndgkjpeaaDoor
open Go.RowKit Go.Maps

theorem g0 : Tryd.prog.globalNamed "countermand/trace.words" = some 0 := by kernel_rfl
theorem g1 : Tryd.prog.globalNamed "internal/strconv.uint64pow10" = some 1 := by kernel_rfl
theorem g2 : Tryd.prog.globalNamed "strconv.ErrSyntax" = some 2 := by kernel_rfl
theorem g3 : Tryd.prog.globalNamed "strconv.ErrRange" = some 3 := by kernel_rfl

/-- The package's variables, as they are laid. -/
structure Env (w : World) : Prop where
  low : 5 ≤ w.heap.size
  tab : Lib.TabIs Tryd.prog w "internal/strconv.uint64pow10" .u64 Lib.pow10Tab
  words : ∀ k : Nat, k < 9 → w.cell? ⟨0, k, none⟩ = some (str (wordB k))
  syn : ∃ tp p, w.var? Tryd.prog "strconv.ErrSyntax" = some #[.iface tp p]
  rng : ∃ tp p, w.var? Tryd.prog "strconv.ErrRange" = some #[.iface tp p]
  max : ∃ m, w.cell? ⟨4, 0, none⟩ = some (.int .i64 m)

theorem var_turn {w w' : World} (ht : Turn nowhere w w') {name : String} {g : Nat} (hg : Tryd.prog.globalNamed name = some g) (hlt : g < w.heap.size) : w'.var? Tryd.prog name = w.var? Tryd.prog name := by
  unfold World.var?
  rw [hg]
  simp only [Option.bind_some]
  rw [ht.block g hlt (fun h => h)]
theorem Env.turn {w w' : World} (h : Env w) (ht : Turn nowhere w w') : Env w' := by
  have h5 := h.low
  refine ⟨Nat.le_trans h5 ht.size, ?_, fun k hk => ht.cell (h.words k hk) (fun h => h), ?_, ?_, ?_⟩
  · have := h.tab
    unfold Lib.TabIs at this ⊢
    rw [var_turn ht g1 (by omega)]; exact this
  · rw [var_turn ht g2 (by omega)]; exact h.syn
  · rw [var_turn ht g3 (by omega)]; exact h.rng
  · obtain ⟨m, hm⟩ := h.max
    exact ⟨m, ht.cell hm (fun h => h)⟩

theorem word_calls (k : Int) (w : World) (he : Env w) : Calls Tryd.prog 21 #[.int .i64 k] w fun e w' => e = .returned (str (wordOf k)) ∧ w = w' := by
  by_cases h1 : k < 1
  · have hw : wordOf k = [] := by unfold wordOf; rw [if_pos (.inl h1)]
    have b1 : decide (k < 1) = true := by simpa using h1
    rw [hw]
    clear h1
    go_enter Tryd.func21, Tryd.ntmps21
    go_wp2
    go_ret
    exact ⟨rfl, rfl⟩
  · have b1 : decide (k < 1) = false := by simpa using h1
    by_cases h2 : 9 ≤ k
    · have hw : wordOf k = [] := by unfold wordOf; rw [if_pos (.inr h2)]
      have b2 : decide (9 ≤ k) = true := by simpa using h2
      rw [hw]
      clear h1 h2
      go_enter Tryd.func21, Tryd.ntmps21
      go_wp2
      go_ret
      exact ⟨rfl, rfl⟩
    · have b2 : decide (9 ≤ k) = false := by simpa using h2
      obtain ⟨n, rfl⟩ : ∃ n : Nat, k = (n : Int) := ⟨k.toNat, by omega⟩
      have hw : wordOf (n : Int) = wordB n := by unfold wordOf; rw [if_neg (by omega)]; simp
      have hc := he.words n (by omega)
      rw [hw]
      have hn0 : (0 : Int) ≤ (n : Int) := by omega
      have hn9 : (n : Int) < 9 := by omega
      clear h1 h2 he hw
      go_enter Tryd.func21, Tryd.ntmps21
      go_wp2
      go_ret
      exact ⟨rfl, rfl⟩

end Go.Proofs.YtbeapjndgkjpeaaDoor
