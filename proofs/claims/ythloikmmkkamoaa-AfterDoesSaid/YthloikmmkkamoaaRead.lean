/- The contracts of New, Rows and Waiting. -/
import Derived.Test.YthloikmmkkamoaaAdd
namespace Go.Proofs.Ythloikmmkkamoaa
open Go.RowKit Go.Maps

set_option maxHeartbeats 400000 in
theorem rows_calls {w : World} {F : Nat → Prop} {lb n : Nat} {rows : List Reg} {most : Int} (h : AList w F lb rows most n) (hlen : rows.length ≤ 200) :
    Calls Try.prog 17 #[.pointer (some ⟨lb, 0, none⟩)] w (RetFresh 54 3 rows.length (regs rows) w) := by
  obtain ⟨mb, rv, V, h⟩ := h
  obtain ⟨A, c, rfl, _, _⟩ := own_form h.rws
  have c0 := h.c0
  have HR := Lib.hid (Reads.of_own h.rws)
  clear h
  obtain ⟨k, hk⟩ : ∃ k, k = rows.length := ⟨_, rfl⟩
  have HK := Lib.hid hk
  rw [← hk] at c0 hlen HR
  rw [← hk]
  clear hk
  go_enter Try.func17, Try.ntmps17
  go_wp2_with fail
  refine (clone_regs A k c rows w HR.out (by omega)).mono ?_
  rintro e w' ⟨v, rfl, hf⟩
  have HF := Lib.hid hf
  clear hf
  go_wp2
  go_ret
  exact ⟨_, rfl, HF.out⟩

set_option maxHeartbeats 400000 in
theorem waiting_calls {w : World} {F : Nat → Prop} {lb n : Nat} {rows : List Reg} {most on : Int} (h : AList w F lb rows most n) (hlen : rows.length ≤ 200) (hon : wfi on) :
    Calls Try.prog 18 #[.pointer (some ⟨lb, 0, none⟩), .int .i64 on] w (RetFresh 3 1 (waiting rows on).length (ints (waiting rows on)) w) := by
  obtain ⟨mb, rv, V, h⟩ := h
  have c1 := h.c1
  have hwl : (waiting rows on).length ≤ 200 := Nat.le_trans (waiting_len rows on) hlen
  have l1 := h.mp.look keyed3 Try.underlying58 (zero32 w) (key3 hon) hon
  obtain ⟨A, c, hu, _, _⟩ := own_form (h.each on hon)
  have HR := Lib.hid (Reads.of_own (hu ▸ h.each on hon))
  unfold at_ at hu
  rw [hu] at l1
  clear hu h
  obtain ⟨ys, hys⟩ : ∃ ys, ys = waiting rows on := ⟨_, rfl⟩
  rw [← hys] at HR hwl l1
  rw [← hys]
  clear hys
  obtain ⟨k, hk⟩ : ∃ k, k = ys.length := ⟨_, rfl⟩
  rw [← hk] at HR hwl l1
  rw [← hk]
  clear hk
  go_enter Try.func18, Try.ntmps18
  go_wp2_with fail
  refine (clone_ints A k c ys w HR.out (by omega)).mono ?_
  rintro e w' ⟨v, rfl, hf⟩
  have HF := Lib.hid hf
  clear hf
  go_wp2
  go_ret
  exact ⟨_, rfl, HF.out⟩

/-- 'New' of what may not be. -/
theorem new_bad (most : Int) (w : World) (h : most < 1 ∨ 200 < most) :
    Calls Try.prog 8 #[.int .i64 most] w fun e w' => e = .returned (.tuple #[.pointer none, .int .i64 1]) ∧ w = w' := by
  rcases h with h | h
  · go_enter Try.func8, Try.ntmps8
    go_wp2
    go_ret2
    exact ⟨rfl, rfl⟩
  · have h1 : ¬ most < 1 := by omega
    go_enter Try.func8, Try.ntmps8
    go_wp2
    go_ret2
    exact ⟨rfl, rfl⟩

/-- The blocks from w to w'. -/
def fresh (w w' : World) : Nat → Prop := fun k => w.heap.size ≤ k ∧ k < w'.heap.size

def NewDone (w : World) (most : Int) (e : Ending) (w' : World) : Prop :=
  ∃ lb, e = .returned (.tuple #[.pointer (some ⟨lb, 0, none⟩), .int .i64 0]) ∧ AList w' (fresh w w') lb [] most 0 ∧ Turn nowhere w w'

set_option maxHeartbeats 400000 in
theorem new_ok (most : Int) (w : World) (h1 : 1 ≤ most) (h2 : most ≤ 200) :
    Calls Try.prog 8 #[.int .i64 most] w (NewDone w most) := by
  have hmm := @run_makeMap Try.prog
  have h3 : ¬ most < 1 := by omega
  have h4 : ¬ 200 < most := by omega
  go_enter Try.func8, Try.ntmps8
  go_wp2
  go_ret2
  refine ⟨w.heap.size + 1, rfl, ⟨w.heap.size, .slice none 0 0, fun _ => none, ?_⟩, ((Turn.refl _ _).alloc _).alloc _⟩
  refine ⟨?_, World.ownsRow_nil _ _ _ _, ?_, fun _ _ => World.ownsRow_nil _ _ _ _, ?_, ?_, fun k hk => hk.2, ?_, ?_, ?_, ?_⟩
  · have := heap_alloc_new (w.alloc (.map #[] 0)) (.cells #[.slice none 0 0, .map (some w.heap.size), .int .i64 most] 60)
    simpa using this
  · exact (MapIs.made Try.prog 3 w).turn ((Turn.refl nowhere _).alloc _) (fun h => h)
  · intro i j _ _ _ g hg
    simp [at_, Value.ownBlock] at hg
  · intro k hk
    simp at hk
  · exact ⟨by omega, by simp⟩
  · exact ⟨by omega, by simp; omega⟩
  · intro g hg
    simp [Value.ownBlock] at hg
  · intro i _ g hg
    simp [at_, Value.ownBlock] at hg

end Go.Proofs.Ythloikmmkkamoaa
