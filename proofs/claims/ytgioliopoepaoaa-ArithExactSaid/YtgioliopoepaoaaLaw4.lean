/-
  The statements of chapter 4: sums of lists; the examples at their head.
-/
import Derived.Test.YtgioliopoepaoaaArithA
namespace Go.Proofs.Ytgioliopoepaoaa
open Go.RowKit Go.Shelf

/-- A slice of n cells at A reads as the words l. -/
structure WLim (w : World) (A : Option Addr) (n : Nat) (l : List Int) : Prop where
  len : l.length = n
  fit : ∀ x ∈ l, Wd x
  reads : Reads w w.heap.size 1 A n (l.map (Value.int .u64))
theorem WLim.nil (w : World) : WLim w none 0 [] := ⟨rfl, (fun _ h => by cases h), Reads.none_⟩
theorem WLim.below {w w' : World} {A : Option Addr} {n : Nat} {l : List Int} (h : WLim w A n l) (hb : Below w.heap.size w w') : WLim w' A n l := ⟨h.len, h.fit, (h.reads.below hb).more hb.size⟩
theorem WLim.alloc {w : World} {A : Option Addr} {n : Nat} {l : List Int} (h : WLim w A n l) (o : Obj) : WLim (w.alloc o) A n l := h.below ((Below.refl _ _).alloc (Nat.le_refl _) o)
theorem WLim.get {w : World} {A : Option Addr} {n : Nat} {l : List Int} (h : WLim w A n l) {k : Nat} (hk : k < n) : Wd (l.getD k 0) := by
  have := h.len
  rw [List.getD_eq_getElem?_getD, List.getElem?_eq_getElem (by omega)]
  exact h.fit _ (List.getElem_mem (by omega))
theorem WLim.at_ {w : World} {A : Option Addr} {n : Nat} {l : List Int} (h : WLim w A n l) {k : Nat} (hk : k < n) : ∃ ad, A = some ad ∧ ad.block < w.heap.size ∧ w.cell? (ad.add k) = some (.int .u64 (l.getD k 0)) := by
  obtain ⟨ad, u, hA, hb, hx, hc⟩ := h.reads.at_ hk
  refine ⟨ad, hA, hb, ?_⟩
  have hl := h.len
  rw [List.getElem?_map, List.getElem?_eq_getElem (by omega)] at hx
  rw [hc, ← hx, List.getD_eq_getElem?_getD, List.getElem?_eq_getElem (by omega)]; rfl
theorem WLim.new (w : World) (l : List Int) (n : Nat) (e : TypeId) (cs : Array Value) (hn : l.length = n) (hf : ∀ x ∈ l, Wd x) (hcs : cs.toList = l.map (Value.int .u64)) : WLim (w.alloc (.cells cs e)) (some ⟨w.heap.size, 0, none⟩) n l := by
  refine ⟨hn, hf, by rw [List.length_map]; omega, fun _ => ⟨_, rfl, by simp, fun j u hu => ?_⟩⟩
  rw [← hcs] at hu
  have hj : j < cs.size := by
    have := (List.getElem?_eq_some_iff.1 hu).1
    simpa using this
  simp [go_sem, Addr.add]
  rcases Nat.eq_zero_or_pos j with h | h
  · subst h; simpa using hu
  · rw [if_neg (by omega)]; simpa using hu
def lsum (l : List Int) : Int := l.foldl addI 0
theorem lsum_snoc (l : List Int) (x : Int) : lsum (l ++ [x]) = addI (lsum l) x := by unfold lsum; rw [List.foldl_append]; rfl
theorem lsum_take {l : List Int} {k : Nat} {x : Int} (h : k < l.length) (hx : l.getD k 0 = x) : lsum (l.take (k + 1)) = addI (lsum (l.take k)) x := by
  rw [List.take_succ_eq_append_getElem h, lsum_snoc]
  rw [List.getD_eq_getElem?_getD, List.getElem?_eq_getElem h] at hx
  rw [← hx]; rfl
theorem wd_lsum : ∀ (l : List Int), (∀ x ∈ l, Wd x) → Wd (lsum l) := by
  intro l
  unfold lsum
  have : ∀ (l : List Int) (s : Int), Wd s → (∀ x ∈ l, Wd x) → Wd (l.foldl addI s) := by
    intro l
    induction l with
    | nil => intro s hs _; exact hs
    | cons x l ih => intro s hs h; exact ih _ (wd_add hs (h x (List.mem_cons_self ..))) (fun y hy => h y (List.mem_cons_of_mem _ hy))
  exact this l 0 ⟨by decide, by decide⟩
theorem wd_ltake {l : List Int} (k : Nat) (h : ∀ x ∈ l, Wd x) : Wd (lsum (l.take k)) := wd_lsum _ fun x hx => h x (List.mem_of_mem_take hx)

set_option maxHeartbeats 1000000 in
theorem asums_any (A : Option Addr) (n c : Nat) (l : List Int) (w : World) (hl : WLim w A n l) (hn : n ≤ 1048576) :
    Calls Try.prog 17 #[.slice A n c] w fun e w' => e = .returned (.int .u64 (lsum l)) ∧ Below w.heap.size w w' := by
  have hlen := Lib.hid hl.len
  have hfit := Lib.hid hl.fit
  have HL := Lib.hid hl
  clear hl
  go_enter Try.func17, Try.ntmps17
  go_wp2
  go_loopw [3, 8] (fun sv iv wr => ∃ (k : Nat) (s : Int), iv = .int .i64 k ∧ sv = .int .u64 s ∧ k ≤ n ∧ s = lsum (l.take k) ∧ Below w.heap.size w wr) (fun _ iv _ => n - (intOf iv).toNat)
  case atStart => exact ⟨0, 0, rfl, rfl, Nat.zero_le _, rfl, Below.refl _ _⟩
  case round =>
    obtain ⟨k, s, rfl, rfl, hk, hs, hB⟩ := hrel
    have HB := Lib.hid hB
    have ws := wd_ltake k hfit.out
    rw [← hs] at ws
    have HS := Lib.hid hs
    clear hB hs
    by_cases hlt : k < n
    · obtain ⟨ad, hA, hadb, hcell⟩ := (HL.out.below HB.out).at_ hlt
      subst hA
      have wx := HL.out.get hlt
      obtain ⟨x, hx⟩ : ∃ x, l.getD k 0 = x := ⟨_, rfl⟩
      have hst := lsum_take (show k < l.length by rw [hlen.out]; exact hlt) hx
      rw [← HS.out] at hst
      rw [hx] at hcell wx
      have HST := Lib.hid hst
      have CA := Lib.hid (fun v => aadd_any s x v ws wx)
      clear hx hst wx ws
      go_wp2_with fail
      (with_reducible refine (CA.out _).mono ?_)
      rintro e w1 ⟨rfl, hb1⟩
      go_wp2
      go_roundw
      case rel => exact ⟨k + 1, _, by go_num, rfl, by omega, HST.out.symm, Bel.st HB.out hb1⟩
      case measure => simp [intOf]; omega
    · have he : s = lsum l := by rw [HS.out, List.take_of_length_le (by rw [hlen.out]; omega)]
      have HE := Lib.hid he
      clear he ws
      go_wp2
      go_ret
      exact ⟨retI HE.out, HB.out⟩
set_option maxHeartbeats 1000000 in
theorem asums_three (w : World) : Calls Try.prog 17 #[.slice (some ⟨w.heap.size, 0, none⟩) 3 3] (w.alloc (.cells #[.int .u64 4845873199050653696, .int .u64 4607182418800017408, .int .u64 4607182418800017408] 22)) fun e w' => e = .returned (.int .u64 4845873199050653696) ∧ Below (w.alloc (.cells #[.int .u64 4845873199050653696, .int .u64 4607182418800017408, .int .u64 4607182418800017408] 22)).heap.size (w.alloc (.cells #[.int .u64 4845873199050653696, .int .u64 4607182418800017408, .int .u64 4607182418800017408] 22)) w' :=
  (asums_any _ 3 3 [4845873199050653696, 4607182418800017408, 4607182418800017408] _ (WLim.new w _ 3 _ _ rfl (by intro x hx; simp only [List.mem_cons, List.not_mem_nil, or_false] at hx; rcases hx with rfl | rfl | rfl <;> exact ⟨by decide, by decide⟩) rfl) (by omega)).mono fun _ _ ⟨he, hb⟩ => ⟨he.trans (retI (by decide +kernel)), hb⟩
theorem asums_one (w : World) : Calls Try.prog 17 #[.slice (some ⟨w.heap.size, 0, none⟩) 1 1] (w.alloc (.cells #[.int .u64 9223372036854775808] 22)) fun e w' => e = .returned (.int .u64 0) ∧ Below (w.alloc (.cells #[.int .u64 9223372036854775808] 22)).heap.size (w.alloc (.cells #[.int .u64 9223372036854775808] 22)) w' :=
  (asums_any _ 1 1 [9223372036854775808] _ (WLim.new w _ 1 _ _ rfl (by intro x hx; simp only [List.mem_cons, List.not_mem_nil, or_false] at hx; subst hx; exact ⟨by decide, by decide⟩) rfl) (by omega)).mono fun _ _ ⟨he, hb⟩ => ⟨he.trans (retI (by decide +kernel)), hb⟩
theorem asums_none (w : World) : Calls Try.prog 17 #[.slice none 0 0] w fun e w' => e = .returned (.int .u64 0) ∧ Below w.heap.size w w' :=
  (asums_any none 0 0 [] w (WLim.nil w) (by omega)).mono fun _ _ ⟨he, hb⟩ => ⟨he.trans rfl, hb⟩

set_option maxRecDepth 100000 in
set_option maxHeartbeats 8000000 in
theorem shown4_any (w : World) : Calls Try.prog 10 #[] w fun e w' => e = .returned (.bool true) ∧ Below w.heap.size w w' := by
  have a1 : addI 4607182418800017408 4368491638549381120 = 4607182418800017408 := by decide +kernel
  have a2 : addI 4607182418800017409 4368491638549381120 = 4607182418800017410 := by decide +kernel
  have a3 : addI 4607182418800017408 13830554455654793216 = 0 := by decide +kernel
  have a4 : addI 9223372036854775808 9223372036854775808 = 9223372036854775808 := by decide +kernel
  have a5 : addI 9223372036854775808 0 = 0 := by decide +kernel
  have a6 : addI 9218868437227405312 18442240474082181120 = 9221120237041090560 := by decide +kernel
  have a7 : addI 9218868437227405312 4617315517961601024 = 9218868437227405312 := by decide +kernel
  have a8 : addI 9218868437227405311 9218868437227405311 = 9218868437227405312 := by decide +kernel
  have a9 : subI 4613937818241073152 4617315517961601024 = 13835058055282163712 := by decide +kernel
  have m1 : mulI 4591870180066957722 4613937818241073152 = 4599075939470750516 := by decide +kernel
  have m2 : mulI 9218868437227405312 0 = 9221120237041090560 := by decide +kernel
  have m3 : mulI 9223372036854775808 4617315517961601024 = 9223372036854775808 := by decide +kernel
  have m4 : mulI 1 4602678819172646912 = 0 := by decide +kernel
  have m5 : mulI 1 4604930618986332160 = 1 := by decide +kernel
  have hB : Below w.heap.size w w := Below.refl _ _
  go_enter Try.func10, Try.ntmps10
  go_wp2_with (first
    | (go_at_call 11; (with_reducible refine (aadd_any _ _ _ (Wd.mk (by decide) (by decide)) (Wd.mk (by decide) (by decide))).mono ?_); rintro e w1 ⟨rfl, hb⟩; replace hB := Bel.st hB hb; clear hb)
    | (go_at_call 13; (with_reducible refine (asub_any _ _ _ (Wd.mk (by decide) (by decide)) (Wd.mk (by decide) (by decide))).mono ?_); rintro e w1 ⟨rfl, hb⟩; replace hB := Bel.st hB hb; clear hb)
    | (go_at_call 15; (with_reducible refine (amul_any _ _ _ (Wd.mk (by decide) (by decide)) (Wd.mk (by decide) (by decide))).mono ?_); rintro e w1 ⟨rfl, hb⟩; replace hB := Bel.st hB hb; clear hb)
    | fail)
  (with_reducible refine (asums_none _).mono ?_)
  rintro e w2 ⟨rfl, hb⟩
  replace hB := Bel.st hB hb
  clear hb
  go_wp2_with fail
  (with_reducible refine (asums_one _).mono ?_)
  rintro e w3 ⟨rfl, hb⟩
  replace hB := Bel.st (Bel.al hB _) hb
  clear hb
  go_wp2_with fail
  (with_reducible refine (asums_three _).mono ?_)
  rintro e w4 ⟨rfl, hb⟩
  replace hB := Bel.st (Bel.al hB _) hb
  clear hb
  go_wp2_with fail
  go_ret
  exact ⟨rfl, hB⟩
end Go.Proofs.Ytgioliopoepaoaa
