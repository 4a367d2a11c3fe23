/- The document's own list (of the law's reference): its memory; the contracts of New, Add, Stop. -/
import Derived.Test.YthloikmmkkamoaaStops
namespace Go.Proofs.Ythloikmmkkamoaa
open Go.RowKit Go.Maps

/-- The reference's list behind the pointer to block rb. -/
structure RL (w : World) (F : Nat → Prop) (rb : Nat) (rv : Value) (rows : List Reg) (most : Int) : Prop where
  blk : w.heap[rb]? = some (.cells #[rv, .int .i64 most] 48 (0, 0))
  rws : w.ownsRow 0 57 3 rv rows.length (regs rows)
  fb : ∀ k, F k → k < w.heap.size
  fl : F rb
  fr : ∀ g, rv.ownBlock = some g → F g
def RList (w : World) (F : Nat → Prop) (rb : Nat) (rows : List Reg) (most : Int) : Prop := ∃ rv, RL w F rb rv rows most

section
variable {w w' w1 : World} {F G : Nat → Prop} {rb : Nat} {rv v' : Value} {rows rows' : List Reg} {most : Int}
theorem RL.turn (h : RL w F rb rv rows most) (ht : Turn G w w') (hd : ∀ k, F k → ¬ G k) : RL w' F rb rv rows most :=
  ⟨ht.obj h.blk (hd _ h.fl), ht.own h.rws (fun g hg => hd g (h.fr g hg)), fun k hk => Nat.lt_of_lt_of_le (h.fb k hk) ht.size, h.fl, h.fr⟩
theorem RList.turn (h : RList w F rb rows most) (ht : Turn G w w') (hd : ∀ k, F k → ¬ G k) : RList w' F rb rows most := by
  obtain ⟨rv, h⟩ := h; exact ⟨rv, h.turn ht hd⟩
theorem RList.fb (h : RList w F rb rows most) : ∀ k, F k → k < w.heap.size := by obtain ⟨rv, h⟩ := h; exact h.fb
theorem RL.c0 (h : RL w F rb rv rows most) : w.cell? ⟨rb, 0, none⟩ = some rv := by simp [World.cell?, h.blk]
theorem RL.c1 (h : RL w F rb rv rows most) : w.cell? ⟨rb, 1, none⟩ = some (.int .i64 most) := by simp [World.cell?, h.blk]
theorem RL.lt (h : RL w F rb rv rows most) : rb < w.heap.size := lt_of_block h.blk
theorem RL.f (h : RL w F rb rv rows most) (i : Nat) : w.frozen? ⟨rb, i, none⟩ = false := by simp [World.frozen?, h.blk]

/-- A new row has been made, and stored. -/
theorem RL.put (h : RL w F rb rv rows most) (t1 : Turn nowhere w w1) (o1 : w1.ownsRow w.heap.size 57 3 v' rows'.length (regs rows')) :
    RL (w1.setCell ⟨rb, 0, none⟩ v') (more F w (w1.setCell ⟨rb, 0, none⟩ v')) rb v' rows' most ∧ Turn F w (w1.setCell ⟨rb, 0, none⟩ v') := by
  have b1 := t1.obj h.blk (fun h => h)
  have t2 : Turn (fun k => rb = k) w1 (w1.setCell ⟨rb, 0, none⟩ v') := (Turn.refl (fun k => rb = k) w1).setCell (p := ⟨rb, 0, none⟩) (.inl rfl) v'
  have hs : w.heap.size ≤ (w1.setCell ⟨rb, 0, none⟩ v').heap.size := by simpa using t1.size
  refine ⟨⟨?_, ?_, ?_, .inl h.fl, ?_⟩, (t1.mono (G := F) (fun _ _ h => h.elim)).trans t2 (fun i _ e => by subst e; exact h.fl)⟩
  · have := heap_setCell_same w1 rb 0 #[rv, .int .i64 most] 48 v' b1
    simpa using this
  · have o2 := t2.own o1 (fun g hg e => by subst e; exact own_ne_obj o1 b1 (by decide) hg)
    refine ⟨o2.1, ?_⟩
    rcases o2.2 with h0 | ⟨g, cap, cur, e, _, r⟩
    · exact .inl h0
    · exact .inr ⟨g, cap, cur, e, Nat.zero_le _, r⟩
  · rintro k (hk | hk)
    · exact Nat.lt_of_lt_of_le (h.fb k hk) hs
    · exact hk.2
  · intro g hg
    have := o1.lt g hg
    exact .inr ⟨this.1, by simpa using this.2⟩

/-- A state has been set. -/
theorem RL.set (h : RL w F rb rv rows most) {g : Nat} {cap : Nat} (hv : rv = .slice (some ⟨g, 0, none⟩) rows.length cap) (k : Nat) (hk : k < rows.length) (s : Int) :
    RL (w.setCell ⟨g, k * 3 + 2, none⟩ (.int .i64 s)) F rb rv (setSt rows k s) most ∧ Turn F w (w.setCell ⟨g, k * 3 + 2, none⟩ (.int .i64 s)) := by
  subst hv
  obtain ⟨o1, g1⟩ := h.rws.stored (k * 3 + 2) (.int .i64 s)
  have t : Turn (fun q => (Value.slice (some ⟨g, 0, none⟩) rows.length cap).ownBlock = some q) w (w.setCell ⟨g, k * 3 + 2, none⟩ (.int .i64 s)) := Turn.of_grown g1 (fun q hq _ => by simpa [Value.ownBlock] using hq)
  refine ⟨⟨t.obj h.blk (own_ne_obj h.rws h.blk (by decide)), ?_, fun q hq => Nat.lt_of_lt_of_le (h.fb q hq) t.size, h.fl, h.fr⟩, t.mono fun q _ hq => h.fr q hq⟩
  rw [setSt_len, ← regs_set _ _ _ hk]
  exact o1
end

def RNew (w : World) (most : Int) (e : Ending) (w' : World) : Prop :=
  ∃ rb, e = .returned (.tuple #[.pointer (some ⟨rb, 0, none⟩), .int .i64 0]) ∧ RList w' (fresh w w') rb [] most ∧ Turn nowhere w w'

theorem rnew_bad (most : Int) (w : World) (h : most < 1 ∨ 200 < most) :
    Calls Try.prog 9 #[.int .i64 most] w fun e w' => e = .returned (.tuple #[.pointer none, .int .i64 1]) ∧ w = w' := by
  rcases h with h | h
  · go_enter Try.func9, Try.ntmps9
    go_wp2
    go_ret2
    exact ⟨rfl, rfl⟩
  · have h1 : ¬ most < 1 := by omega
    go_enter Try.func9, Try.ntmps9
    go_wp2
    go_ret2
    exact ⟨rfl, rfl⟩

theorem rnew_ok (most : Int) (w : World) (h1 : 1 ≤ most) (h2 : most ≤ 200) : Calls Try.prog 9 #[.int .i64 most] w (RNew w most) := by
  have h3 : ¬ most < 1 := by omega
  have h4 : ¬ 200 < most := by omega
  go_enter Try.func9, Try.ntmps9
  go_wp2
  go_ret2
  refine ⟨w.heap.size, rfl, ⟨.slice none 0 0, ?_, World.ownsRow_nil _ _ _ _, fun k hk => hk.2, ⟨Nat.le_refl _, by simp⟩, ?_⟩, (Turn.refl _ _).alloc _⟩
  · exact heap_alloc_new w _
  · intro g hg
    simp [Value.ownBlock] at hg

/-- 'Add' where there is no room. -/
theorem radd_full {w : World} {F : Nat → Prop} {rb : Nat} {rows : List Reg} {most on thing : Int} (h : RList w F rb rows most) (hm : (rows.length : Int) = most) :
    Calls Try.prog 11 #[.pointer (some ⟨rb, 0, none⟩), .int .i64 on, .int .i64 thing] w fun e w' => e = .returned (.tuple #[.int .i64 (-1), .int .i64 2]) ∧ Turn nowhere w w' := by
  obtain ⟨rv, h⟩ := h
  obtain ⟨A, c, rfl, _, _⟩ := own_form h.rws
  have c0 := h.c0
  have c1 := h.c1
  clear h
  rw [← hm] at c1
  clear hm
  generalize rows.length = k at c0 c1
  go_enter Try.func11, Try.ntmps11
  go_wp2_with fail
  go_quiet (fail)
  go_wp2
  go_ret2
  exact ⟨rfl, (Turn.refl _ _).drewN _⟩

set_option maxHeartbeats 800000 in
theorem radd_room {w : World} {F : Nat → Prop} {rb : Nat} {rows : List Reg} {most on thing : Int} (h : RList w F rb rows most) (hm : (rows.length : Int) < most) (hlen : rows.length ≤ 200) :
    Calls Try.prog 11 #[.pointer (some ⟨rb, 0, none⟩), .int .i64 on, .int .i64 thing] w fun e w' => e = .returned (.tuple #[.int .i64 rows.length, .int .i64 0]) ∧ RList w' (more F w w') rb (rows ++ [⟨on, thing, 1⟩]) most ∧ Turn F w w' := by
  obtain ⟨i0, hi, hz0, hz1, hz2⟩ := info_parts Try.info57
  obtain ⟨rv, h⟩ := h
  obtain ⟨A, c, rfl, _, _⟩ := own_form h.rws
  have c0 := h.c0
  have c1 := h.c1
  have hlb := h.lt
  have H := Lib.hid h
  obtain ⟨k, hk⟩ : ∃ k, k = rows.length := ⟨_, rfl⟩
  have HK := Lib.hid hk
  rw [← hk] at c0 hlen hm ⊢
  have hb : decide (most ≤ (k : Int)) = false := by simp; omega
  clear h hk
  go_enter Try.func11, Try.ntmps11
  go_wp2_with fail
  go_quiet (fail)
  have HW := Lib.hid (show Turn nowhere w (w.drewN nq) from (Turn.refl _ _).drewN _)
  have hrw : w.ownsRow 0 57 3 (.slice A k c) k (regs rows) := by have := H.out.rws; rw [← HK.out] at this; exact this
  have HRR := Lib.hid ((Reads.of_own hrw).kept HW.out)
  clear hrw
  generalize w.drewN nq = w0 at HW HRR ⊢
  have c00 := HW.out.cell c0 (fun h => h)
  have hlb0 : rb < w0.heap.size := Nat.lt_of_lt_of_le hlb HW.out.size
  clear c0 c1 hb
  have hsz0 := HW.out.size
  go_wp2_with (at_builtin; refine wpList_append_reads _ rfl (.tmp 19) (.tmp 23) 43 rfl w.heap.size 57 i0 (.agg #[.int .i64 0, .int .i64 0, .int .i64 0]) 3 24 Try.underlying43 hi hz0 hz1 hz2 rfl (by decide) _ 0 [] rfl ?o1 A k c (regs rows) rfl ?o2 (regs_one rows) ?o3 ?o4 ?o5 ?_)
  case o1 => exact World.ownsRow_lit (base := w.heap.size) (size := 3) (e := 57) w0 #[] 0 hsz0 (by simp [maxLen]) rfl
  case o2 => exact HRR.out.kept ((Turn.refl _ _).alloc _)
  case o3 => unfold maxLen; omega
  case o4 => omega
  case o5 => simp; omega
  intro v1 w1 hown hg hvv
  have HO1 := Lib.hid (show w1.ownsRow w.heap.size 57 3 v1 k (regs rows) from by simpa using hown)
  have HT1 := Lib.hid (show Turn nowhere w w1 from (HW.out.alloc _).grown hg (fun q hq hlt => by
    have : w0.heap.size = q := by simpa [Value.ownBlock] using hq
    omega))
  clear hown hg hvv
  go_wp2_with (at_builtin; refine wpList_append_own_at _ rfl (.tmp 24) (.tmp 28) 43 rfl w.heap.size 57 i0 (.agg #[.int .i64 0, .int .i64 0, .int .i64 0]) 3 24 Try.underlying43 hi hz0 hz1 hz2 rfl (by decide) v1 k (regs rows) rfl ?o1 ⟨w1.heap.size, 0, none⟩ 1 1 [.int .i64 on, .int .i64 thing, .int .i64 1] rfl rfl ?o2 ?o3 ?o4 ?o5 ?o6 ?_)
  case o1 => exact HO1.out.alloc _
  case o2 => exact World.news_of_block (heap_alloc_new w1 _)
  case o3 => intro u hu; simp at hu; rcases hu with rfl | rfl | rfl <;> rfl
  case o4 => unfold maxLen; omega
  case o5 => omega
  case o6 => have := HT1.out.size; simp; omega
  intro v2 w2 hown hg _ _
  have HO2 := Lib.hid (show w2.ownsRow w.heap.size 57 3 v2 (rows ++ [(⟨on, thing, 1⟩ : Reg)]).length (regs (rows ++ [⟨on, thing, 1⟩])) from by
    rw [regs_snoc, List.length_append, List.length_singleton, ← HK.out]; exact hown)
  have HT2 := Lib.hid (show Turn nowhere w w2 from (HT1.out.alloc _).grown hg (fun q hq hlt => by have := (HO1.out.lt q hq).1; omega))
  obtain ⟨A2, c2, hv2, _, _⟩ := own_form HO2.out
  have d0 := HT2.out.cell H.out.c0 (fun h => h)
  rw [← HK.out] at d0
  have f0 : w2.frozen? ⟨rb, 0, none⟩ = false := by
    have := HT2.out.obj H.out.blk (fun h => h)
    simp [World.frozen?, this]
  obtain ⟨hP, hT⟩ := H.out.put HT2.out HO2.out
  have HP := Lib.hid hP
  have HT := Lib.hid hT
  have d1 := hP.c0
  rw [hv2] at d1 ⊢
  rw [hv2] at HP HT
  have hk1 : (rows ++ [⟨on, thing, 1⟩] : List Reg).length = k + 1 := by rw [HK.out]; simp
  rw [hk1] at d1 HP HT ⊢
  clear hown hg hP hT hv2
  go_wp2
  go_ret2
  exact ⟨rfl, ⟨_, HP.out⟩, HT.out⟩

/-- 'Stop' of none that waits. -/
theorem rstop_no {w : World} {F : Nat → Prop} {rb : Nat} {rows : List Reg} {most x : Int} (h : RList w F rb rows most) (hlen : rows.length ≤ 200) (hx : x < 0 ∨ (rows.length : Int) ≤ x ∨ ∃ k : Nat, x = k ∧ k < rows.length ∧ (rows.getD k default).state ≠ 1) :
    Calls Try.prog 12 #[.pointer (some ⟨rb, 0, none⟩), .int .i64 x] w fun e w' => e = .returned (.bool false) ∧ Turn nowhere w w' := by
  obtain ⟨rv, h⟩ := h
  obtain ⟨A, c, rfl, _, _⟩ := own_form h.rws
  have c0 := h.c0
  have HR := Lib.hid h.rws
  clear h
  obtain ⟨len, hk⟩ : ∃ k, k = rows.length := ⟨_, rfl⟩
  rcases hx with hx | hx | ⟨k, rfl, hkl, hst⟩
  · clear HR
    rw [← hk] at c0 hlen
    clear hk
    have hd : decide (x < 0) = true := by simpa using hx
    go_enter Try.func12, Try.ntmps12
    go_wp2
    go_ret
    exact ⟨rfl, Turn.refl _ _⟩
  · clear HR
    rw [← hk] at c0 hlen hx
    clear hk
    have h0 : ¬ x < 0 := by omega
    have hd : decide (x < 0) = false := by simpa using h0
    have he : decide ((len : Int) ≤ x) = true := by simpa using hx
    go_enter Try.func12, Try.ntmps12
    go_wp2
    go_ret
    exact ⟨rfl, Turn.refl _ _⟩
  · obtain ⟨g, cap, hv, _, hg⟩ := HR.out.form (by omega)
    obtain ⟨rfl, rfl⟩ : A = some ⟨g, 0, none⟩ ∧ c = cap := by simpa using hv
    obtain ⟨_, _, r2⟩ := regs_at rows k hkl
    have c5 := HR.out.cellAt (k * 3 + 2) (by omega)
    rw [r2] at c5
    clear HR hv r2
    generalize (rows.getD k default).state = st at c5 hst
    have hb : (st != 1) = true := by rw [bne_iff_ne]; exact hst
    rw [← hk] at c0 hlen hkl
    clear hk hst
    have h0 : ¬ (k : Int) < 0 := by omega
    have hd : decide ((k : Int) < 0) = false := by simp
    have h1 : (0 : Int) ≤ (k : Int) := by omega
    have h2 : (k : Int) < (len : Int) := by omega
    have he : decide ((len : Int) ≤ (k : Int)) = false := by simpa using h2
    go_enter Try.func12, Try.ntmps12
    go_wp2
    go_ret
    exact ⟨rfl, Turn.refl _ _⟩

set_option maxRecDepth 20000 in
/-- 'Stop' of one that waits. -/
theorem rstop_yes {w : World} {F : Nat → Prop} {rb : Nat} {rows : List Reg} {most : Int} {k : Nat} (h : RList w F rb rows most) (hlen : rows.length ≤ 200) (hkl : k < rows.length) (hst : (rows.getD k default).state = 1) :
    Calls Try.prog 12 #[.pointer (some ⟨rb, 0, none⟩), .int .i64 k] w fun e w' => e = .returned (.bool true) ∧ RList w' F rb (setSt rows k 3) most ∧ Turn F w w' := by
  obtain ⟨rv, h⟩ := h
  obtain ⟨A, c, rfl, _, _⟩ := own_form h.rws
  have c0 := h.c0
  have HR := Lib.hid h.rws
  obtain ⟨g, cap, hv, _, hg⟩ := HR.out.form (by omega)
  obtain ⟨rfl, rfl⟩ : A = some ⟨g, 0, none⟩ ∧ c = cap := by simpa using hv
  obtain ⟨hs, ht⟩ := h.set rfl k hkl 3
  have HS := Lib.hid hs
  have HT := Lib.hid ht
  clear h hv hs ht
  have c5 := HR.out.cellAt (k * 3 + 2) (by omega)
  have f5 := HR.out.frozenAt (k * 3 + 2)
  rw [(regs_at rows k hkl).2.2, hst] at c5
  obtain ⟨len, hk⟩ : ∃ k, k = rows.length := ⟨_, rfl⟩
  rw [← hk] at c0 hlen hkl
  clear HR hst hk
  have h0 : ¬ (k : Int) < 0 := by omega
  have hd : decide ((k : Int) < 0) = false := by simp
  have h1 : (0 : Int) ≤ (k : Int) := by omega
  have h2 : (k : Int) < (len : Int) := by omega
  have he : decide ((len : Int) ≤ (k : Int)) = false := by simpa using h2
  go_enter Try.func12, Try.ntmps12
  go_wp2
  go_ret
  exact ⟨rfl, ⟨_, HS.out⟩, HT.out⟩

end Go.Proofs.Ythloikmmkkamoaa
