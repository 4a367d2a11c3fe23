/- Contracts of slices.Clone, of Stop's closure and of slices.IndexFunc with it. -/
import Derived.Test.YthloikmmkkamoaaSameR
import Derived.WalkLawsBesides
import Derived.Lib.SliceRun
namespace Go.Proofs.Ythloikmmkkamoaa
open Go.RowKit Go.Maps

theorem Try.info3 : (Try.prog.info? 3).map (fun i => (i.zero, i.size, i.bytes)) = some (some (.int .i64 0), 1, 8) := by kernel_rfl
theorem Try.info54 : (Try.prog.info? 54).map (fun i => (i.zero, i.size, i.bytes)) = some (some (.agg #[.int .i64 0, .int .i64 0, .int .i64 0]), 3, 24) := by kernel_rfl
theorem Try.info57 : (Try.prog.info? 57).map (fun i => (i.zero, i.size, i.bytes)) = some (some (.agg #[.int .i64 0, .int .i64 0, .int .i64 0]), 3, 24) := by kernel_rfl

theorem regs_one (l : List Reg) : ∀ u ∈ regs l, u.oneCell' = true := by
  intro u hu
  obtain ⟨r, _, h⟩ := List.mem_flatMap.1 hu
  simp [Reg.cells] at h
  rcases h with rfl | rfl | rfl <;> rfl
theorem ints_one (l : List Int) : ∀ u ∈ ints l, u.oneCell' = true := ints_oneCell .i64 l

/-- What is made anew: the value owns xs from block B on; nothing that was there has turned. -/
def Fresh (e : TypeId) (size n : Nat) (xs : List Value) (w : World) (v : Value) (w' : World) : Prop :=
  w'.ownsRow w.heap.size e size v n xs ∧ Turn nowhere w w'

def RetFresh (e : TypeId) (size n : Nat) (xs : List Value) (w : World) (en : Ending) (w' : World) : Prop := ∃ v, en = .returned v ∧ Fresh e size n xs w v w'

set_option maxHeartbeats 400000 in
theorem clone_ints (A : Option Addr) (n c : Nat) (xs : List Int) (w : World) (hx : Reads w 1 A n (ints xs)) (hn : n ≤ 1000000) :
    Calls Try.prog 24 #[.slice A n c] w (RetFresh 3 1 n (ints xs) w) := by
  obtain ⟨i0, hi, hz0, hz1, hz2⟩ := info_parts Try.info3
  have hq := fun w' => Lib.run_eql_slice_nil (P := Try.prog) w' 32 3 A n c 0 0 Try.underlying32
  rcases A with _ | ad
  · obtain rfl : n = 0 := by
      rcases Nat.eq_zero_or_pos n with h | h
      · exact h
      · obtain ⟨_, _, h, _⟩ := hx.2 h; cases h
    obtain rfl : xs = [] := List.eq_nil_of_length_eq_zero (by simpa using hx.1)
    clear hx
    go_enter Try.func24, Try.ntmps24
    go_wp2
    go_ret
    exact ⟨_, rfl, World.ownsRow_nil _ _ _ _, Turn.refl _ _⟩
  · have HX := Lib.hid hx
    clear hx
    have h63 : 0 + n ≤ maxLen := by unfold maxLen; omega
    go_enter Try.func24, Try.ntmps24
    go_wp2_with (at_builtin; refine wpList_append_reads _ rfl _ _ 32 rfl w.heap.size 3 i0 (.int .i64 0) 1 8 Try.underlying32 hi hz0 hz1 hz2 rfl (by decide) _ 0 [] rfl ?o1 _ n c (ints xs) rfl ?o2 (ints_one xs) h63 (by omega) (by simp) ?_)
    case o1 => exact World.ownsRow_lit w #[] 0 (Nat.le_refl _) (by simp [maxLen]) rfl
    case o2 => exact HX.out.kept ((Turn.refl _ _).alloc _)
    intro v' w' hown hg _
    have HO := Lib.hid hown
    have HG := Lib.hid (show Turn nowhere w w' from ((Turn.refl nowhere w).alloc _).grown hg (by intro g h; simp [Value.ownBlock] at h; omega))
    clear hown hg
    go_wp2
    go_ret
    exact ⟨_, rfl, by simpa using HO.out, HG.out⟩

set_option maxHeartbeats 400000 in
theorem clone_regs (A : Option Addr) (n c : Nat) (xs : List Reg) (w : World) (hx : Reads w 3 A n (regs xs)) (hn : n ≤ 1000000) :
    Calls Try.prog 23 #[.slice A n c] w (RetFresh 54 3 n (regs xs) w) := by
  obtain ⟨i0, hi, hz0, hz1, hz2⟩ := info_parts Try.info54
  have hq := fun w' => Lib.run_eql_slice_nil (P := Try.prog) w' 45 54 A n c 0 0 Try.underlying45
  rcases A with _ | ad
  · obtain rfl : n = 0 := by
      rcases Nat.eq_zero_or_pos n with h | h
      · exact h
      · obtain ⟨_, _, h, _⟩ := hx.2 h; cases h
    obtain rfl : xs = [] := List.eq_nil_of_length_eq_zero (by have := hx.1; rw [regs_len] at this; omega)
    clear hx
    go_enter Try.func23, Try.ntmps23
    go_wp2
    go_ret
    exact ⟨_, rfl, World.ownsRow_nil _ _ _ _, Turn.refl _ _⟩
  · have HX := Lib.hid hx
    clear hx
    have h63 : 0 + n ≤ maxLen := by unfold maxLen; omega
    go_enter Try.func23, Try.ntmps23
    go_wp2_with (at_builtin; refine wpList_append_reads _ rfl _ _ 45 rfl w.heap.size 54 i0 (.agg #[.int .i64 0, .int .i64 0, .int .i64 0]) 3 24 Try.underlying45 hi hz0 hz1 hz2 rfl (by decide) _ 0 [] rfl ?o1 _ n c (regs xs) rfl ?o2 (regs_one xs) h63 (by omega) (by simp) ?_)
    case o1 => exact World.ownsRow_lit w #[] 0 (Nat.le_refl _) (by simp [maxLen]) rfl
    case o2 => exact HX.out.kept ((Turn.refl _ _).alloc _)
    intro v' w' hown hg _
    have HO := Lib.hid hown
    have HG := Lib.hid (show Turn nowhere w w' from ((Turn.refl nowhere w).alloc _).grown hg (by intro g h; simp [Value.ownBlock] at h; omega))
    clear hown hg
    go_wp2
    go_ret
    exact ⟨_, rfl, by simpa using HO.out, HG.out⟩

theorem eq_calls (k n0 : Int) (cb : Nat) (w : World) (hc : w.cell? ⟨cb, 0, none⟩ = some (.int .i64 n0)) :
    Calls Try.prog 26 #[.int .i64 k, .pointer (some ⟨cb, 0, none⟩)] w fun e w' => e = .returned (.bool (k == n0)) ∧ w = w' := by
  go_enter Try.func26, Try.ntmps26
  go_wp2
  go_ret
  exact ⟨rfl, rfl⟩

/-- the closure of Stop -/
abbrev isN (cb : Nat) : Value := .func (.func 26) #[] #[.pointer (some ⟨cb, 0, none⟩)]

set_option maxHeartbeats 400000 in
theorem index_calls (b off n c cb : Nat) (n0 : Int) (xs : List Int) (w : World) (hn : n ≤ 1000000)
    (hx : ∀ k, k < n → w.cell? ⟨b, off + k, none⟩ = some (.int .i64 (xs.getD k 0))) (hc : w.cell? ⟨cb, 0, none⟩ = some (.int .i64 n0)) (p : Nat) (hp : p < n) (hpx : xs.getD p 0 = n0) (hfirst : ∀ k, k < p → xs.getD k 0 ≠ n0) :
    Calls Try.prog 27 #[.slice (some ⟨b, off, none⟩) n c, isN cb] w fun e w' => e = .returned (.int .i64 p) ∧ w = w' := by
  have HX := Lib.hid hx
  have HP := Lib.hid hpx
  have HF := Lib.hid hfirst
  clear hx hpx hfirst
  go_enter Try.func27, Try.ntmps27
  go_wp2
  go_loop [8] (fun i => ∃ k : Nat, k ≤ p ∧ i = .int .i64 k) (fun i => p - (intOf i).toNat)
  case atStart => exact ⟨0, Nat.zero_le _, rfl⟩
  case round =>
    obtain ⟨k, hk, rfl⟩ := hrel
    have h0 : (0 : Int) ≤ (k : Int) := by omega
    have h1 : (k : Int) < (n : Int) := by omega
    have hcx := HX.out k (by omega)
    by_cases hlt : k < p
    · have hb : (xs.getD k 0 == n0) = false := beq_eq_false_iff_ne.2 (HF.out k hlt)
      generalize xs.getD k 0 = q at hcx hb
      go_wp2_with (go_at_call 26; refine (eq_calls _ _ _ _ hc).mono ?_; rintro e w' ⟨rfl, rfl⟩)
      go_round
      case rel => exact ⟨k + 1, by omega, by go_num⟩
      case measure => simp [intOf]; omega
    · obtain rfl : k = p := by omega
      rw [HP.out] at hcx
      go_wp2_with (go_at_call 26; refine (eq_calls _ _ _ _ hc).mono ?_; rintro e w' ⟨rfl, rfl⟩)
      go_ret
      exact ⟨rfl, rfl⟩

end Go.Proofs.Ythloikmmkkamoaa
