/-
  M5C: the texts Ref1G, Kit, Ref3R, Ref3S, Ref2, Ref3T, Ref3U, Nat, NatB, NatC, NatD, NatE, NatF in one (a claim has at most 60 files).
-/
import Derived.Deep.DeepCutAuto
import Derived.Laws.CopyOwn
import Derived.Test.YtmjaoeafompclaaM5A
import Derived.Test.YtmjaoeafompclaaM5B

namespace Go.Proofs.Ytmjaoeafompclaa
open Go.RowKit Go.Shelf

theorem NatV.below {w w' : World} {v : Value} {N : Nat} (h : NatV w v N) (hb : Below w.heap.size w w') : NatV w' v N := by
  obtain ⟨A, n, c, hv, h1, h2, hl⟩ := h
  exact ⟨A, n, c, hv, h1, h2, hl.below hb⟩
theorem NatV.nil (w : World) : NatV w (.slice none 0 0) 0 := ⟨none, 0, 0, rfl, Nat.le_refl _, Nat.zero_le _, by rw [Pl.limbs_zero]; exact Lim.nil w⟩
theorem SliceV.nil (w : World) (d : Nat) : SliceV w (.slice none 0 0) 0 d := (NatV.nil w).slice (Nat.pow_pos Pl.B32_pos)
theorem SliceV.stored {w : World} {v : Value} {N d B G j : Nat} {u : Value} (h : SliceV w v N d) (hf : Fresh B v) (hG : G < B) : SliceV (w.setCell ⟨G, j, none⟩ u) v N d := by
  obtain ⟨A, n, c, l, rfl, h1, h2, hl, hN, hd⟩ := h
  refine ⟨A, n, c, l, rfl, h1, h2, ⟨hl.len, hl.fit, hl.reads.1, fun h0 => ?_⟩, hN, hd⟩
  obtain ⟨ad, rfl, hb, hc⟩ := hl.reads.2 h0
  refine ⟨ad, rfl, by simpa using hb, fun i y hy => ?_⟩
  rw [World.cell?_setCell_other _ _ _ _ (fun e => by
    have e2 := congrArg Addr.block e
    rw [block_of_add] at e2
    have := hf ad n c rfl
    simp at e2
    omega)]
  exact hc i y hy
def RetTwo (N M : Nat) (w : World) (e : Ending) (w' : World) : Prop := ∃ v u, e = .returned (.tuple #[v, u]) ∧ NatV w' v N ∧ NatV w' u M ∧ Below w.heap.size w w'

theorem wraps_u32_ (n : Int) (h : 0 ≤ n ∧ n < 4294967296) : IntKind.u32.wrap n = n := by rw [IntKind.wrap_u32]; omega
theorem or_bit32 (x P r : Nat) (hr : r < 32) (hP : 2 ^ r = P) (hx : x < 4294967296) (h : x % 2 ^ (r + 1) = 0) : bits .or .u32 (x : Int) (P : Int) = ((x + P : Nat) : Int) := by
  have hp : (2 : Nat) ^ r < 2 ^ (r + 1) := Nat.pow_lt_pow_right (by omega) (by omega)
  have hp2 : (2 : Nat) ^ r < 2 ^ 32 := Nat.pow_lt_pow_right (by omega) (by omega)
  have hp3 : ((2 ^ (r + 1) : Nat) : Int) = (2 : Int) ^ (r + 1) := by simp
  have h2 : (x : Int) % (2 : Int) ^ (r + 1) = 0 := by rw [← hp3]; omega
  have := bits_join .u32 32 (by decide) wraps_u32 (r + 1) (x : Int) (P : Int) (by omega) h2 (by omega) (by omega) (by rw [← hp3]; omega) (by omega)
  rw [this]; omega
theorem or_new32 (x P r : Nat) (hr : r < 32) (hP : 2 ^ r = P) (h : x < 2 ^ r) : bits .or .u32 (x : Int) (P : Int) = ((x + P : Nat) : Int) := by
  have hp2 : (2 : Nat) ^ r < 2 ^ 32 := Nat.pow_lt_pow_right (by omega) (by omega)
  have hp3 : ((2 ^ r : Nat) : Int) = (2 : Int) ^ r := by simp
  have h2 : (P : Int) % (2 : Int) ^ r = 0 := by rw [← hp3, hP]; simp
  rw [bits_or_comm, bits_join .u32 32 (by decide) wraps_u32 r (P : Int) (x : Int) (by omega) h2 (by omega) (by omega) (by rw [← hp3]; omega) (by omega)]
  omega

theorem fit_zeros' (n : Nat) : Pl.Fit (List.replicate n 0) := fun x hx => by rw [(List.mem_replicate.1 hx).2]; exact Pl.B32_pos
theorem double_bd {R M d : Nat} {b : Bool} (h : R < M) (hM : M < Pl.B32 ^ d) : 2 * R + b01 b < Pl.B32 ^ (d + 1) := by
  have := b01_le b
  rw [Nat.pow_succ]
  have h2 : Pl.B32 ^ d * 2 ≤ Pl.B32 ^ d * Pl.B32 := Nat.mul_le_mul_left _ (by decide)
  omega
theorem b01_bit (N j : Nat) : b01 (bitB N j) = N / 2 ^ j % 2 := by
  unfold b01 bitB
  by_cases h : N / 2 ^ j % 2 = 1
  · simp [h]
  · have : N / 2 ^ j % 2 = 0 := by omega
    simp [this]
theorem cmp_ge' {a b : Nat} (h : b ≤ a) : 0 ≤ cmpI (a : Int) b := by unfold cmpI; (repeat' split) <;> omega

set_option maxRecDepth 100000 in
set_option maxHeartbeats 8000000 in
theorem parts_v {w : World} {a b : Value} {N M d : Nat} (ha : SliceV w a N d) (hb : SliceV w b M d) (hd : d ≤ 90000) (hM : 0 < M) : Calls Try.prog 40 #[a, b] w (RetTwo (N / M) (N % M) w) := by
  obtain ⟨i0, hi0, hz0, hz1, hz2⟩ := info_parts u32_info
  have HBV := Lib.hid hb
  obtain ⟨A1, n1, c1, l1, rfl, h1, h2, hl1, hN, hd1⟩ := ha
  have HAV := Lib.hid (show SliceV w (.slice A1 n1 c1) N d from ⟨A1, n1, c1, l1, rfl, h1, h2, hl1, hN, hd1⟩)
  have hMd := Lib.hid hb.lt
  have hNn : N < 2 ^ (32 * n1) := by rw [← Pl.B32_pow, ← hN, ← hl1.len]; exact Pl.val_lt hl1.fit
  have HNN := Lib.hid hNn
  clear hl1 hN hNn hb
  go_enter Try.func40, Try.ntmps40
  go_wp2_with (at_make; refine wpList_make_full _ rfl _ _ _ rfl w.heap.size 77 i0 _ 1 Try.underlying45 hi0 hz0 hz1 .i64 .i64 _ _ n1 rfl rfl rfl rfl (by rw [hz2]; omega) (by unfold maxLen; omega) (Nat.le_refl _) ?_; intro w1 hown1 hg1; rw [made_zero] at hown1; have hB1 := (Below.refl w.heap.size w).grown hg1 (Nat.le_refl _) (by simp))
  have HB1 := Lib.hid hB1
  have BK := Lib.hid (Blk.of_own hown1)
  clear hown1 hg1 hB1
  go_loopw [7, 8] (fun rv iv wr => ∃ (j R : Nat) (o : List Nat), iv = .int .i64 ((j : Int) - 1) ∧ j ≤ 32 * n1 ∧ SliceV wr rv R d ∧ o.length = n1 ∧ Pl.Fit o ∧ Pl.PartsAt N M j R (Pl.val o) ∧ Blk wr w.heap.size o ∧ Below w.heap.size w wr) (fun _ iv _ => (intOf iv + 1).toNat)
  case atStart => exact ⟨32 * n1, 0, _, by go_num, Nat.le_refl _, SliceV.nil _ _, by simp, fit_zeros' n1, by rw [Pl.val_zeros]; exact Pl.PartsAt.start HNN.out, BK.out, HB1.out⟩
  case round =>
    obtain ⟨j, R, o, rfl, hj, hrv, hol, hof, hat, hbk, hB⟩ := hrel
    have HR := Lib.hid hrv
    have HOL := Lib.hid hol
    have HOF := Lib.hid hof
    have HA := Lib.hid hat
    have HK := Lib.hid hbk
    have HB := Lib.hid hB
    clear hrv hol hof hat hbk hB BK HB1
    rcases Nat.eq_zero_or_pos j with h0 | h0
    · subst h0
      obtain ⟨e1, e2⟩ := HA.out.done
      have hS := HK.out.slice HOL.out (by unfold maxLen; omega) HOF.out
      rw [e1] at hS
      have hR := HR.out
      rw [e2] at hR
      have HS := Lib.hid hS
      have HR2 := Lib.hid hR
      clear hS hR e1 e2
      go_wp2_with fail
      (with_reducible refine (trim_v HS.out (by omega)).mono ?_)
      rintro e w2 ⟨v2, rfl, hv2, hb2⟩
      go_wp2_with fail
      (with_reducible refine (trim_v (HR2.out.below hb2) (by omega)).mono ?_)
      rintro e w3 ⟨v3, rfl, hv3, hb3⟩
      go_wp2
      go_ret2
      exact ⟨v2, v3, rfl, hv2.below hb3, hv3, (HB.out.trans (hb2.mono HB.out.size)).trans (hb3.mono (Nat.le_trans HB.out.size hb2.size))⟩
    · obtain ⟨i, rfl⟩ : ∃ i, j = i + 1 := ⟨j - 1, by omega⟩
      have hRM := HA.out.lt hM
      obtain ⟨t, ht⟩ : ∃ t, bitB N i = t := ⟨_, rfl⟩
      have htb := b01_bit N i
      rw [ht] at htb
      have hbd := double_bd (b := t) hRM hMd.out
      obtain ⟨X, hX⟩ : ∃ X, 2 * R + b01 t = X := ⟨_, rfl⟩
      obtain ⟨C, hC⟩ : ∃ C, cmpI (X : Int) (M : Int) = C := ⟨_, rfl⟩
      rw [hX] at hbd
      have HX := Lib.hid hX
      have HT := Lib.hid ht
      have HTB := Lib.hid htb
      have HBD := Lib.hid hbd
      by_cases hle : M ≤ X
      · have hC0 : 0 ≤ C := by rw [← hC]; exact cmp_ge' hle
        have HC := Lib.hid hC
        have hat2 := HA.out.yes hM HTB.out (by rw [HX.out]; exact hle)
        have hdv := HA.out.dvd
        rw [HX.out] at hat2
        obtain ⟨q, hq⟩ : ∃ q : Nat, (i : Int) / 32 = q := ⟨i / 32, by omega⟩
        obtain ⟨r, hr⟩ : ∃ r : Nat, (i : Int) % 32 = r := ⟨i % 32, by omega⟩
        have hi32 : i = 32 * q + r := by omega
        have hr32 : r < 32 := by omega
        have hqn : q < n1 := by omega
        have hql : q < o.length := by rw [HOL.out]; exact hqn
        have hlow := Pl.limb_low HOF.out hi32 hr32 hdv
        have hset := Pl.val_bit hi32 hql
        have hxB := HOF.out.get q
        have hlt := Pl.low_lt hr32 hxB hlow
        obtain ⟨x, hx⟩ : ∃ x, o.getD q 0 = x := ⟨_, rfl⟩
        obtain ⟨P, hP⟩ : ∃ P, 2 ^ r = P := ⟨_, rfl⟩
        rw [hx] at hlow hset hxB hlt
        have hor := or_bit32 x P r hr32 hP (by unfold Pl.B32 at hxB; exact hxB) hlow
        have hPi : (2 : Int) ^ r = (P : Int) := by rw [← hP]; simp
        rw [hP] at hset hlt
        unfold Pl.B32 at hlt
        rw [← hset] at hat2
        have k1 : IntKind.u32.wrap (P : Int) = (P : Int) := wraps_u32_ _ (by omega)
        have HAT := Lib.hid hat2
        have HXX := Lib.hid hx
        have HDV := Lib.hid hdv
        clear hat2 hdv hlow hset hxB hx hP hX hC ht htb hbd hRM hi32
        go_wp2_with fail
        (with_reducible refine (bit_v i (HAV.out.below' HB.out (Nat.le_refl _)) (by omega)).mono ?_)
        rw [HT.out]
        rintro e w2 ⟨rfl, rfl⟩
        go_wp2_with fail
        (with_reducible refine (twice_v t HR.out (by omega)).mono ?_)
        rw [HX.out]
        rintro e w3 ⟨v3, rfl, hv3, hb3⟩
        have hb3' := HB.out.trans (hb3.mono HB.out.size)
        have HV3 := Lib.hid (hv3.slice HBD.out)
        have HM3 := Lib.hid ((HBV.out.below hb3').more (Nat.le_succ d))
        have HB3 := Lib.hid hb3'
        have HK3 := Lib.hid (HK.out.below hb3)
        clear hv3 hb3 hb3'
        go_wp2_with fail
        (with_reducible refine (rcmp_v HV3.out HM3.out (by omega)).mono ?_)
        rw [HC.out]
        rintro e w4 ⟨rfl, hb4⟩
        have HV4 := Lib.hid (HV3.out.below hb4)
        have HM4 := Lib.hid (HM3.out.below hb4)
        have HK4 := Lib.hid (HK3.out.below hb4)
        have HB4 := Lib.hid (HB3.out.trans (hb4.mono HB3.out.size))
        clear hb4
        go_wp2_with fail
        (with_reducible refine (less_fresh HV4.out HM4.out (by omega) hle).mono ?_)
        rintro e w5 ⟨v5, rfl, hv5, hb5, hf5⟩
        have HF5 := Lib.hid (hf5.mono (show w.heap.size + 1 ≤ _ from HK4.out.lt))
        have HK5 := HK4.out.below hb5
        have HB5 := Lib.hid (HB4.out.trans (hb5.mono HB4.out.size))
        have hcell := HK5.cell hql
        have hfz := HK5.free q
        rw [HXX.out] at hcell
        have HK6 := Lib.hid HK5
        have HV5 := Lib.hid hv5
        clear HK5 hv5 hb5 hf5
        go_wp2
        go_roundw
        case rel => exact ⟨i, _, _, by go_num, by omega, (HV5.out.slice (Nat.lt_trans (HAT.out.lt hM) hMd.out)).stored HF5.out (Nat.lt_succ_self _), by simp [HOL.out], HOF.out.set _ (by unfold Pl.B32; exact hlt), HAT.out, (by first | exact HK6.out.set q (z := ((x + P : Nat) : Int)) rfl | exact HK6.out.set q (z := (x : Int) + (P : Int)) (by omega) | exact HK6.out.set q hor), HB5.out.setCell (Nat.le_refl _) _⟩
        case measure => simp [intOf]
      · have hC0 : ¬ 0 ≤ C := by rw [← hC, cmp_lt' (by omega)]; omega
        have hC1 : C < 0 := by omega
        have HC := Lib.hid hC
        have hat2 := HA.out.no HTB.out (by rw [HX.out]; omega)
        rw [HX.out] at hat2
        have HAT := Lib.hid hat2
        clear hat2 hX hC ht htb hbd hRM
        go_wp2_with fail
        (with_reducible refine (bit_v i (HAV.out.below' HB.out (Nat.le_refl _)) (by omega)).mono ?_)
        rw [HT.out]
        rintro e w2 ⟨rfl, rfl⟩
        go_wp2_with fail
        (with_reducible refine (twice_v t HR.out (by omega)).mono ?_)
        rw [HX.out]
        rintro e w3 ⟨v3, rfl, hv3, hb3⟩
        have hb3' := HB.out.trans (hb3.mono HB.out.size)
        have HV3 := Lib.hid hv3
        have HM3 := Lib.hid ((HBV.out.below hb3').more (Nat.le_succ d))
        have HB3 := Lib.hid hb3'
        have HK3 := Lib.hid (HK.out.below hb3)
        clear hv3 hb3 hb3'
        go_wp2_with fail
        (with_reducible refine (rcmp_v (HV3.out.slice HBD.out) HM3.out (by omega)).mono ?_)
        rw [HC.out]
        rintro e w4 ⟨rfl, hb4⟩
        have HV4 := Lib.hid (HV3.out.below hb4)
        have HK4 := Lib.hid (HK3.out.below hb4)
        have HB4 := Lib.hid (HB3.out.trans (hb4.mono HB3.out.size))
        clear hb4
        go_wp2
        go_roundw
        case rel => exact ⟨i, X, _, by go_num, by omega, HV4.out.slice (Nat.lt_trans (by omega) hMd.out), HOL.out, HOF.out, HAT.out, HK4.out, HB4.out⟩
        case measure => simp [intOf]
end Go.Proofs.Ytmjaoeafompclaa

namespace Go.Proofs.Ytmjaoeafompclaa
open Go.RowKit Go.Shelf

theorem Bel.al {w0 w : World} (h : Below w0.heap.size w0 w) (o : Obj) : Below w0.heap.size w0 (w.alloc o) := h.alloc h.size o
theorem Bel.st {w0 w w' : World} (h : Below w0.heap.size w0 w) (hb : Below w.heap.size w w') : Below w0.heap.size w0 w' := h.trans (hb.mono h.size)
theorem Bel.dr {w0 w : World} (h : Below w0.heap.size w0 w) : Below w0.heap.size w0 w.drew := ⟨h.os, h.tape, h.output, h.size, h.block⟩
theorem Bel.drN {w0 w : World} (h : Below w0.heap.size w0 w) (n : Nat) : Below w0.heap.size w0 (w.drewN n) := ⟨h.os, h.tape, h.output, h.size, h.block⟩
theorem Bel.re (w : World) : Below w.heap.size w w := Below.refl _ _
theorem NatV.alloc {w : World} {v : Value} {N : Nat} (h : NatV w v N) (o : Obj) : NatV (w.alloc o) v N := h.below ((Below.refl _ _).alloc (Nat.le_refl _) o)
theorem NatV.drewN {w : World} {v : Value} {N : Nat} (h : NatV w v N) (k : Nat) : NatV (w.drewN k) v N := by
  obtain ⟨A, n, c, hv, h1, h2, hl⟩ := h
  exact ⟨A, n, c, hv, h1, h2, hl.drewN k⟩
theorem NatV.drew {w : World} {v : Value} {N : Nat} (h : NatV w v N) : NatV w.drew v N := h.drewN 1
theorem SliceV.drew {w : World} {v : Value} {N d : Nat} (h : SliceV w v N d) : SliceV w.drew v N d := h.drewN 1
theorem shut_alt {p : Bool} (h : p = true) : Ending.returned (.bool p) = .returned (.bool true) := by rw [h]
theorem NatV.stored {w : World} {v : Value} {N B G j : Nat} {u : Value} (h : NatV w v N) (hf : Fresh B v) (hG : G < B) : NatV (w.setCell ⟨G, j, none⟩ u) v N := by
  obtain ⟨A, n, c, rfl, h1, h2, hl⟩ := h
  refine ⟨A, n, c, rfl, h1, h2, ⟨hl.len, hl.fit, hl.reads.1, fun h0 => ?_⟩⟩
  obtain ⟨ad, rfl, hb, hc⟩ := hl.reads.2 h0
  refine ⟨ad, rfl, by simpa using hb, fun i y hy => ?_⟩
  rw [World.cell?_setCell_other _ _ _ _ (fun e => by
    have e2 := congrArg Addr.block e
    rw [block_of_add] at e2
    have := hf ad n c rfl
    simp at e2
    omega)]
  exact hc i y hy
/-- A block of two cells that may be written. -/
structure HdV (w : World) (n : Nat) (u v : Value) : Prop where
  lt : n < w.heap.size
  c0 : w.cell? ⟨n, 0, none⟩ = some u
  c1 : w.cell? ⟨n, 1, none⟩ = some v
  f0 : w.frozen? ⟨n, 0, none⟩ = false
  f1 : w.frozen? ⟨n, 1, none⟩ = false
theorem HdV.below {w w' : World} {n : Nat} {u v : Value} (h : HdV w n u v) (hb : Below w.heap.size w w') : HdV w' n u v :=
  ⟨Nat.lt_of_lt_of_le h.lt hb.size, (hb.cell (p := ⟨n, 0, none⟩) h.lt).trans h.c0, (hb.cell (p := ⟨n, 1, none⟩) h.lt).trans h.c1, (hb.frozen (p := ⟨n, 0, none⟩) h.lt).trans h.f0, (hb.frozen (p := ⟨n, 1, none⟩) h.lt).trans h.f1⟩
theorem HdV.alloc {w : World} {n : Nat} {u v : Value} (h : HdV w n u v) (o : Obj) : HdV (w.alloc o) n u v := h.below ((Below.refl _ _).alloc (Nat.le_refl _) o)
theorem HdV.drew {w : World} {n : Nat} {u v : Value} (h : HdV w n u v) : HdV w.drew n u v := ⟨h.lt, h.c0, h.c1, h.f0, h.f1⟩
theorem HdV.drewN {w : World} {n : Nat} {u v : Value} (h : HdV w n u v) (k : Nat) : HdV (w.drewN k) n u v := ⟨h.lt, h.c0, h.c1, h.f0, h.f1⟩
theorem HdV.new (w : World) (u v : Value) (t : TypeId) : HdV (w.alloc (.cells #[u, v] t)) w.heap.size u v := ⟨by simp, by simp [go_sem], by simp [go_sem], by simp [go_sem], by simp [go_sem]⟩
theorem HdV.set {w : World} {n : Nat} {u v : Value} (h : HdV w n u v) (a b : Value) : HdV ((w.setCell ⟨n, 0, none⟩ a).setCell ⟨n, 1, none⟩ b) n a b := by
  have e1 : (w.setCell ⟨n, 0, none⟩ a).cell? ⟨n, 1, none⟩ = some v := (World.cell?_setCell_other _ _ _ _ (fun e => by have := congrArg Addr.off e; simp at this)).trans h.c1
  refine ⟨by simpa using h.lt, ?_, World.cell?_setCell_same _ _ _ e1, by simpa using h.f0, by simpa using h.f1⟩
  rw [World.cell?_setCell_other _ _ _ _ (fun e => by have := congrArg Addr.off e; simp at this)]
  exact World.cell?_setCell_same _ _ _ h.c0
theorem HdV.keep2 {w : World} {n G : Nat} {u v : Value} (h : HdV w n u v) (hne : G ≠ n) (a b : Value) : HdV ((w.setCell ⟨G, 0, none⟩ a).setCell ⟨G, 1, none⟩ b) n u v := by
  refine ⟨by simpa using h.lt, ?_, ?_, by simpa using h.f0, by simpa using h.f1⟩
  · rw [World.cell?_setCell_other _ _ _ _ (fun e => hne (congrArg Addr.block e)), World.cell?_setCell_other _ _ _ _ (fun e => hne (congrArg Addr.block e))]; exact h.c0
  · rw [World.cell?_setCell_other _ _ _ _ (fun e => hne (congrArg Addr.block e)), World.cell?_setCell_other _ _ _ _ (fun e => hne (congrArg Addr.block e))]; exact h.c1
theorem Bel.se2 {w0 w : World} {G : Nat} (h : Below w0.heap.size w0 w) (hG : w0.heap.size ≤ G) (a b : Value) : Below w0.heap.size w0 ((w.setCell ⟨G, 0, none⟩ a).setCell ⟨G, 1, none⟩ b) := (h.setCell hG _).setCell hG _
theorem HdV.new' {w w' : World} {u v : Value} {t : TypeId} {n : Nat} (hw : w' = w.alloc (.cells #[u, v] t)) (hn : n = w.heap.size) : HdV w' n u v := by
  subst hw hn; exact HdV.new w u v t
end Go.Proofs.Ytmjaoeafompclaa

namespace Go.Proofs.Ytmjaoeafompclaa
open Go.RowKit Go.Shelf

/-- Is there a bit below the n-th? -/
def lowB (N n : Nat) : Bool := decide (N % 2 ^ n ≠ 0)
theorem low_step {N k : Nat} (h : N % 2 ^ k = 0) (hb : bitB N k = false) : N % 2 ^ (k + 1) = 0 := by
  unfold bitB at hb
  have hb : ¬ N / 2 ^ k % 2 = 1 := by simpa using hb
  rw [Nat.pow_succ, Nat.mod_mul]
  have : N / 2 ^ k % 2 = 0 := by omega
  rw [h, this]; simp
theorem low_yes {N k n : Nat} (h : k < n) (hb : bitB N k = true) : lowB N n = true := by
  unfold bitB at hb
  have hb : N / 2 ^ k % 2 = 1 := by simpa using hb
  unfold lowB
  simp only [decide_eq_true_eq]
  intro h0
  obtain ⟨c, rfl⟩ := Nat.dvd_of_mod_eq_zero h0
  obtain ⟨d, rfl⟩ : ∃ d, n = k + 1 + d := ⟨n - k - 1, by omega⟩
  have e : 2 ^ (k + 1 + d) * c = 2 ^ k * (2 * (2 ^ d * c)) := by rw [Nat.pow_add, Nat.pow_succ]; simp only [Nat.mul_assoc]
  rw [e, Nat.mul_div_cancel_left _ (Nat.two_pow_pos k)] at hb
  omega
theorem low_no {N k n d : Nat} (h : N % 2 ^ k = 0) (hN : N < Pl.B32 ^ d) (hk : n ≤ k ∨ 32 * d ≤ k) : lowB N n = false := by
  unfold lowB
  simp only [decide_eq_false_iff_not, Decidable.not_not]
  rcases hk with hk | hk
  · obtain ⟨c, rfl⟩ := Nat.dvd_of_mod_eq_zero h
    obtain ⟨j, rfl⟩ : ∃ j, k = n + j := ⟨k - n, by omega⟩
    rw [Nat.pow_add, Nat.mul_assoc]
    exact Nat.mul_mod_right _ _
  · rw [Pl.B32_pow] at hN
    have : N < 2 ^ k := Nat.lt_of_lt_of_le hN (Nat.pow_le_pow_right (by omega) hk)
    rw [Nat.mod_eq_of_lt this] at h
    subst h; simp

set_option maxHeartbeats 1000000 in
theorem rlow_any (A : Option Addr) (n c k : Nat) (l : List Nat) (w : World) (hl : Lim w A n l) (hn : n ≤ 1048576) :
    Calls Try.prog 77 #[.slice A n c, .int .i64 k] w fun e w' => e = .returned (.bool (lowB (Pl.val l) k)) ∧ w = w' := by
  obtain ⟨N, hN⟩ : ∃ N, Pl.val l = N := ⟨_, rfl⟩
  have hlt : N < Pl.B32 ^ n := by have := Pl.val_lt hl.fit; rw [hl.len, hN] at this; exact this
  have HV : ∀ i : Nat, i < 4611686018427387904 → Calls Try.prog 71 #[.slice A n c, .int .i64 i] w fun e w' => e = .returned (.bool (bitB N i)) ∧ w = w' := fun i hi => by
    rw [← hN]; exact bit_any A n c i l w hl hi
  rw [hN]
  have HL := Lib.hid hlt
  clear hlt hl hN
  have HVV := Lib.hid HV
  clear HV
  go_enter Try.func77, Try.ntmps77
  go_wp2
  go_loop [5] (fun iv => ∃ i : Nat, iv = .int .i64 i ∧ i ≤ k ∧ i ≤ 32 * n ∧ N % 2 ^ i = 0) (fun iv => k - (intOf iv).toNat)
  case atStart => exact ⟨0, rfl, Nat.zero_le _, Nat.zero_le _, by rw [Nat.pow_zero]; exact Nat.mod_one _⟩
  case round =>
    obtain ⟨i, rfl, hik, hin, hz⟩ := hrel
    have HZ := Lib.hid hz
    clear hz
    by_cases h1 : i < k
    · by_cases h2 : i < 32 * n
      · cases hb : bitB N i
        · go_wp2_with (go_at_call 71; refine (HVV.out i (by omega)).mono ?_; rw [hb]; rintro e w' ⟨rfl, rfl⟩)
          go_round
          case rel => exact ⟨i + 1, by go_num, by omega, by omega, low_step HZ.out hb⟩
          case measure => simp [intOf]; omega
        · go_wp2_with (go_at_call 71; refine (HVV.out i (by omega)).mono ?_; rw [hb]; rintro e w' ⟨rfl, rfl⟩)
          go_ret
          exact ⟨retB (low_yes h1 hb).symm, rfl⟩
      · go_wp2
        go_ret
        exact ⟨retB (low_no HZ.out HL.out (.inr (by omega))).symm, rfl⟩
    · go_wp2
      go_ret
      exact ⟨retB (low_no HZ.out HL.out (.inl (by omega))).symm, rfl⟩
theorem rlow_v {w : World} {v : Value} {N d : Nat} (k : Nat) (h : SliceV w v N d) (hd : d ≤ 1048576) : Calls Try.prog 77 #[v, .int .i64 k] w fun e w' => e = .returned (.bool (lowB N k)) ∧ w = w' := by
  obtain ⟨A, n, c, l, rfl, h1, h2, hl, rfl, hd'⟩ := h
  exact rlow_any A n c k l w hl (by omega)

/-- 64 bits from the n-th on. -/
def fromN (N n : Nat) : Nat := N / 2 ^ n % 18446744073709551616
/-- Behind some rounds of from: the bits down to the j-th. -/
def FromAt (N n j v : Nat) : Prop := j ≤ 64 ∧ v = N / 2 ^ (n + j) % 2 ^ (64 - j)
theorem FromAt.start (N n : Nat) : FromAt N n 64 0 := ⟨Nat.le_refl _, by rw [Nat.sub_self, Nat.pow_zero, Nat.mod_one]⟩
theorem FromAt.lt {N n j v : Nat} (h : FromAt N n (j + 1) v) : v < 9223372036854775808 := by
  obtain ⟨h1, rfl⟩ := h
  have := Nat.mod_lt (N / 2 ^ (n + (j + 1))) (Nat.two_pow_pos (64 - (j + 1)))
  have h2 : 2 ^ (64 - (j + 1)) ≤ 2 ^ 63 := Nat.pow_le_pow_right (by omega) (by omega)
  omega
theorem FromAt.step {N n j v : Nat} (h : FromAt N n (j + 1) v) : FromAt N n j (2 * v + b01 (bitB N (n + j))) := by
  obtain ⟨h1, rfl⟩ := h
  refine ⟨by omega, ?_⟩
  have e1 : N / 2 ^ (n + (j + 1)) = N / 2 ^ (n + j) / 2 := by rw [← Nat.add_assoc, Nat.pow_succ, Nat.div_div_eq_div_mul]
  have e2 : 2 ^ (64 - j) = 2 * 2 ^ (64 - (j + 1)) := by
    have : 64 - j = 64 - (j + 1) + 1 := by omega
    rw [this, Nat.pow_succ, Nat.mul_comm]
  rw [e1, e2, Nat.mod_mul]
  unfold bitB b01
  generalize N / 2 ^ (n + j) = M
  generalize M / 2 % 2 ^ (64 - (j + 1)) = R
  by_cases hb : M % 2 = 1
  · simp [hb]; omega
  · have : M % 2 = 0 := by omega
    simp [this]
theorem FromAt.done {N n v : Nat} (h : FromAt N n 0 v) : v = fromN N n := by
  obtain ⟨_, rfl⟩ := h; rfl

set_option maxHeartbeats 1000000 in
theorem from_v {w : World} {v : Value} {N d : Nat} (k : Nat) (h : SliceV w v N d) (hk : k < 2305843009213693952) : Calls Try.prog 76 #[v, .int .i64 k] w fun e w' => e = .returned (.int .u64 (fromN N k : Nat)) ∧ w = w' := by
  have H := Lib.hid h
  clear h
  go_enter Try.func76, Try.ntmps76
  go_wp2
  go_loop [5, 6] (fun rv iv => ∃ j r : Nat, iv = .int .i64 ((j : Int) - 1) ∧ rv = .int .u64 r ∧ j ≤ 64 ∧ FromAt N k j r) (fun _ iv => (intOf iv + 1).toNat)
  case atStart => exact ⟨64, 0, rfl, rfl, Nat.le_refl _, FromAt.start N k⟩
  case round =>
    obtain ⟨j, r, rfl, rfl, hj, hat⟩ := hrel
    have HA := Lib.hid hat
    clear hat
    rcases Nat.eq_zero_or_pos j with h0 | h0
    · subst h0
      go_wp2
      go_ret
      exact ⟨retI (by rw [HA.out.done]), rfl⟩
    · obtain ⟨i, rfl⟩ : ∃ i, j = i + 1 := ⟨j - 1, by omega⟩
      have hr := HA.out.lt
      have HS := Lib.hid HA.out.step
      cases hb : bitB N (k + i)
      all_goals
        have HS2 := HS.out
        rw [hb] at HS2
        have HS3 := Lib.hid HS2
        clear HS2
        go_wp2_with (go_at_call 71; refine (bit_v (k + i) H.out (by omega)).mono ?_; rw [hb]; rintro e w' ⟨rfl, rfl⟩)
        go_round
        case rel => exact ⟨i, _, by go_num, by go_num, by omega, HS3.out⟩
        case measure => simp [intOf]
end Go.Proofs.Ytmjaoeafompclaa

namespace Go.Proofs.Ytmjaoeafompclaa
open Go.RowKit Go.Shelf

theorem fit_zeros (n : Nat) : Pl.Fit (List.replicate n 0) := fun x hx => by rw [(List.mem_replicate.1 hx).2]; exact Pl.B32_pos
theorem up_bound {N d q k r : Nat} (hN : N < Pl.B32 ^ d) (hk : k ≤ r) (hr : r < 32) : N * 2 ^ (32 * q + k) < Pl.B32 ^ (d + q + 1) := by
  have h1 : 2 ^ (32 * q + k) ≤ Pl.B32 ^ (q + 1) := by rw [Pl.B32_pow]; exact Nat.pow_le_pow_right (by omega) (by omega)
  have h2 := Nat.mul_lt_mul_of_lt_of_le hN h1 (Nat.pow_pos Pl.B32_pos)
  rw [← Nat.pow_add] at h2
  exact h2
theorem up_first (l : List Nat) (q : Nat) : Pl.val (List.replicate q 0 ++ l) = Pl.val l * 2 ^ (32 * q + 0) := by
  rw [Pl.val_append, Pl.val_zeros, List.length_replicate, Nat.zero_add, Pl.B32_pow, Nat.mul_comm, Nat.add_zero]
theorem up_step (N q k : Nat) : 2 * (N * 2 ^ (32 * q + k)) + b01 false = N * 2 ^ (32 * q + (k + 1)) := by
  unfold b01
  rw [← Nat.add_assoc, Nat.pow_succ, ← Nat.mul_assoc N]; simp; omega

set_option maxHeartbeats 2000000 in
theorem up_fresh (A : Option Addr) (n c u : Nat) (l : List Nat) (w : World) (hl : Lim w A n l) (hn : n ≤ 100000) (hu : u ≤ 1000000) :
    Calls Try.prog 41 #[.slice A n c, .int .i64 u] w (RetNatF (Pl.val l * 2 ^ u) w) := by
  obtain ⟨i0, hi0, hz0, hz1, hz2⟩ := info_parts u32_info
  obtain ⟨q, hq⟩ : ∃ q : Nat, (u : Int) / 32 = q := ⟨u / 32, by omega⟩
  obtain ⟨r, hr⟩ : ∃ r : Nat, (u : Int) % 32 = r := ⟨u % 32, by omega⟩
  have hr1 : r < 32 := by omega
  have hq1 : q ≤ 40000 := by omega
  have hU := Lib.hid (show u = 32 * q + r by omega)
  have hlt : Pl.val l < Pl.B32 ^ n := by have := Pl.val_lt hl.fit; rw [hl.len] at this; exact this
  have HLT := Lib.hid hlt
  have HL := Lib.hid hl
  clear hl hlt
  go_enter Try.func41, Try.ntmps41
  go_wp2_with (first
    | (at_make; refine wpList_make_full _ rfl _ _ _ rfl w.heap.size 77 i0 _ 1 Try.underlying45 hi0 hz0 hz1 .i64 .i64 _ _ q rfl rfl rfl rfl (by rw [hz2]; omega) (by unfold maxLen; omega) (Nat.le_refl _) ?_; intro w1 hown1 hg1; rw [made_zero] at hown1; have hB1 := (Below.refl w.heap.size w).grown hg1 (Nat.le_refl _) (by simp))
    | (at_builtin; refine wpList_append_any _ rfl (.tmp 10) (.tmp 11) _ rfl w.heap.size 77 i0 _ 1 4 Try.underlying45 hi0 hz0 hz1 hz2 rfl (by omega) (.slice (some ⟨w.heap.size, 0, none⟩) q q) q ((List.replicate q 0).map lv) rfl hown1 w1.heap.size A n c (l.map lv) rfl (HL.out.below hB1).reads (one_limbs _) (by unfold maxLen; omega) (by omega) hB1.size ?_; intro v2 w2 hown2 hg2 hat2; rw [← List.map_append] at hown2; have hB2 : Below w.heap.size w w2 := hB1.grown hg2 hB1.size (fun k h => own_at h)))
  have hS : SliceV w2 v2 (Pl.val l * 2 ^ (32 * q + 0)) (n + q + 1) := by
    have := SliceV.of_own hown2 ((fit_zeros q).append HL.out.fit)
    rw [up_first] at this
    exact this.more (by omega)
  have HS := Lib.hid hS
  have HB2 := Lib.hid hB2
  clear hS hB2 hown1 hown2 hB1 hg1 hg2 hat2
  go_loopw [5, 6] (fun v iv wr => ∃ k : Nat, iv = .int .i64 k ∧ k ≤ r ∧ SliceV wr v (Pl.val l * 2 ^ (32 * q + k)) (n + q + 1) ∧ Below w.heap.size w wr) (fun _ iv _ => r - (intOf iv).toNat)
  case atStart => exact ⟨0, rfl, Nat.zero_le _, HS.out, HB2.out⟩
  case round =>
    obtain ⟨k, rfl, hk, hs, hB⟩ := hrel
    have HSk := Lib.hid hs
    have HB := Lib.hid hB
    clear hs hB
    by_cases hlt : k < r
    · have HE := Lib.hid (up_step (Pl.val l) q k)
      go_wp2_with (go_at_call 70; refine (twice_v false HSk.out (by omega)).mono ?_; rw [HE.out]; rintro e w3 ⟨v3, rfl, hv3, hb3⟩)
      go_roundw
      case rel => exact ⟨k + 1, by go_num, by omega, hv3.slice (up_bound HLT.out (show k + 1 ≤ r by omega) hr1), HB.out.trans (hb3.mono HB.out.size)⟩
      case measure => simp [intOf]; omega
    · have HK := Lib.hid (show 32 * q + k = u by have := hU.out; omega)
      go_wp2_with (go_at_call 73; refine (trim_vF HSk.out (by omega)).mono ?_; rw [HK.out]; rintro e w3 ⟨v3, rfl, hv3, hb3, hf3⟩)
      go_ret
      exact ⟨v3, rfl, hv3, HB.out.trans (hb3.mono HB.out.size), hf3.mono HB.out.size⟩
theorem up_vF {w : World} {v : Value} {N d : Nat} (u : Nat) (h : SliceV w v N d) (hd : d ≤ 100000) (hu : u ≤ 1000000) : Calls Try.prog 41 #[v, .int .i64 u] w (RetNatF (N * 2 ^ u) w) := by
  obtain ⟨A, n, c, l, rfl, h1, h2, hl, rfl, hd'⟩ := h
  exact up_fresh A n c u l w hl (by omega) hu
theorem up_v {w : World} {v : Value} {N d : Nat} (u : Nat) (h : SliceV w v N d) (hd : d ≤ 100000) (hu : u ≤ 1000000) : Calls Try.prog 41 #[v, .int .i64 u] w (RetNat (N * 2 ^ u) w) := by
  obtain ⟨A, n, c, l, rfl, h1, h2, hl, rfl, hd'⟩ := h
  exact (up_fresh A n c u l w hl (by omega) hu).mono fun _ _ ⟨v, he, hv, hb, _⟩ => ⟨v, he, hv, hb⟩
end Go.Proofs.Ytmjaoeafompclaa

namespace Go.Proofs.Ytmjaoeafompclaa
open Go.RowKit Go.Shelf

/-- A new block of limbs, as a slice. -/
theorem slice_block (w : World) (l : List Nat) (n : Nat) (cs : Array Value) (e : TypeId) (hf : Pl.Fit l) (hn : l.length = n) (hcs : cs.toList = l.map lv) (hm : n ≤ 1048576) : SliceV (w.alloc (.cells cs e)) (.slice (some ⟨w.heap.size, 0, none⟩) n n) (Pl.val l) n := by
  have hs : cs.size = n := by
    have := congrArg List.length hcs
    rw [List.length_map, hn] at this
    simpa using this
  have h : (w.alloc (.cells cs e)).ownsRow w.heap.size e 1 (.slice (some ⟨w.heap.size, 0, none⟩) n n) n (l.map lv) :=
    ⟨by rw [List.length_map, hn]; omega, .inr ⟨_, n, cs, rfl, Nat.le_refl _, heap_alloc_new w _, Nat.le_refl _, by unfold maxLen; omega, by omega, by rw [hcs, List.take_of_length_le (by rw [List.length_map, hn]; omega)]⟩⟩
  exact SliceV.of_own h hf

theorem val6 (a b c d e f : Nat) : Pl.val [a, b, c, d, e, f] = a + 4294967296 * b + 18446744073709551616 * c + 79228162514264337593543950336 * d + 340282366920938463463374607431768211456 * e + 1461501637330902918203684832716283019655932542976 * f := by
  simp only [Pl.val, Pl.B32]; omega

end Go.Proofs.Ytmjaoeafompclaa

namespace Go.Proofs.Ytmjaoeafompclaa
open Go.RowKit Go.Shelf

theorem bl_slice {w : World} {v : Value} {N d : Nat} (h : SliceV w v N d) : Pl.bl N ≤ 32 * d := by
  have := h.lt
  rw [Pl.B32_pow] at this
  exact Pl.bl_le_of_lt this
theorem from_small {N k : Nat} (h : N / 2 ^ k < 9007199254740992) : fromN N k = N / 2 ^ k := Nat.mod_eq_of_lt (by omega)
theorem from_zero {M : Nat} (h : M < 9007199254740992) : fromN M 0 = M := by unfold fromN; rw [Nat.pow_zero, Nat.div_one]; omega

set_option maxRecDepth 100000 in
set_option maxHeartbeats 4000000 in
theorem round_far (neg more : Bool) {v : Value} {N d : Nat} (e : Int) (w : World) (hs : SliceV w v N d) (hd : d ≤ 3000) (e0 : -9223372036854775808 ≤ e) (h : N = 0 ∨ e < -100000) :
    Calls Try.prog 43 #[.bool neg, v, .int .i64 e, .bool more] w fun r w' => r = .returned (.int .u64 (fbits neg N e more)) ∧ Below w.heap.size w w' := by
  have hb := bl_slice hs
  obtain ⟨L, hL⟩ : ∃ L, Pl.bl N = L := ⟨_, rfl⟩
  have hf : fbits neg N e more = sb neg := by
    unfold fbits
    rcases h with h0 | h0
    · rw [h0, mag_zero]; simp
    · rw [mag_low (by omega) (by omega)]; simp
  have hz : (L : Int) = 0 ∨ e < -100000 := by
    rcases h with h0 | h0
    · left; rw [← hL, h0]; rfl
    · exact .inr h0
  rw [hL] at hb
  have HL := Lib.hid hL
  have HS := Lib.hid hs
  have HF := Lib.hid hf
  clear hL hs hf h
  have hL1 : (L : Int) ≤ 96000 := by omega
  by_cases h0 : L = 0
  · subst h0
    cases neg
    all_goals
      go_enter Try.func43, Try.ntmps43
      go_wp2_with (go_at_call 75; refine (rlen_v HS.out (by omega)).mono ?_; rw [HL.out]; rintro r w1 ⟨rfl, hb1⟩)
      go_ret
      exact ⟨retI (by rw [HF.out]; rfl), hb1⟩
  · have h1 : e < -100000 := by omega
    have h2 : e + (L : Int) < -2000 := by omega
    have h3 : ((L : Int) == 0) = false := by simp; omega
    clear hz
    cases neg
    all_goals
      go_enter Try.func43, Try.ntmps43
      go_wp2_with (go_at_call 75; refine (rlen_v HS.out (by omega)).mono ?_; rw [HL.out]; rintro r w1 ⟨rfl, hb1⟩)
      go_ret
      exact ⟨retI (by rw [HF.out]; rfl), hb1⟩

set_option maxRecDepth 100000 in
set_option maxHeartbeats 4000000 in
theorem round_high (neg more : Bool) {v : Value} {N d : Nat} (e : Int) (w : World) (hs : SliceV w v N d) (hd : d ≤ 3000) (hN : N ≠ 0) (e1 : 2000 < e) :
    Calls Try.prog 43 #[.bool neg, v, .int .i64 e, .bool more] w fun r w' => r = .returned (.int .u64 (fbits neg N e more)) ∧ Below w.heap.size w w' := by
  have hb := bl_slice hs
  obtain ⟨L, hL⟩ : ∃ L, Pl.bl N = L := ⟨_, rfl⟩
  have hf : fbits neg N e more = sb neg + INFI := by
    unfold fbits
    rw [mag_high hN e1]; rfl
  have h0 : 0 < L := by rw [← hL]; exact Pl.bl_pos hN
  rw [hL] at hb
  have HL := Lib.hid hL
  have HS := Lib.hid hs
  have HF := Lib.hid hf
  clear hL hs hf
  have hL1 : (L : Int) ≤ 96000 := by omega
  have h3 : ((L : Int) == 0) = false := by simp; omega
  have h4 : decide (e < -100000) = false := by simp; omega
  cases neg
  all_goals
    go_enter Try.func43, Try.ntmps43
    go_wp2_with (go_at_call 75; refine (rlen_v HS.out (by omega)).mono ?_; rw [HL.out]; rintro r w1 ⟨rfl, hb1⟩)
    go_ret
    exact ⟨retI (by rw [HF.out]; rfl), hb1⟩
end Go.Proofs.Ytmjaoeafompclaa

namespace Go.Proofs.Ytmjaoeafompclaa
open Go.RowKit Go.Shelf

/-- An int of last places that packs to the wanted bits. -/
structure Packs (neg : Bool) (u F : Int) (X : Nat) : Prop where
  le : X ≤ 9007199254740992
  eq : packI neg X u = F
theorem vi {k : IntKind} {a b : Int} (h : a = b) : Value.int k a = Value.int k b := by rw [h]
theorem rne_bits (N k : Nat) (more : Bool) : Pl.rne N (k + 1) more = N / 2 ^ (k + 1) + if (bitB N k && (lowB N k || more || decide (N / 2 ^ (k + 1) % 2 = 1))) = true then 1 else 0 := by
  unfold Pl.rne
  rw [Nat.add_sub_cancel]
  have h : (N / 2 ^ k % 2 = 1 ∧ (N % 2 ^ k ≠ 0 ∨ more = true ∨ N / 2 ^ (k + 1) % 2 = 1)) ↔ (bitB N k && (lowB N k || more || decide (N / 2 ^ (k + 1) % 2 = 1))) = true := by
    unfold bitB lowB
    generalize N / 2 ^ k % 2 = a
    generalize N % 2 ^ k = b
    generalize N / 2 ^ (k + 1) % 2 = c
    simp [or_assoc]
  by_cases g : (N / 2 ^ k % 2 = 1 ∧ (N % 2 ^ k ≠ 0 ∨ more = true ∨ N / 2 ^ (k + 1) % 2 = 1))
  · rw [if_pos g, if_pos (h.1 g)]
  · rw [if_neg g, if_neg (fun x => g (h.2 x))]
theorem bitB_hbit (N k : Nat) : bitB N k = hbit (N : Int) k := by rw [hbit_nat]; rfl
theorem lowB_lost (N k : Nat) : lowB N k = lostN (N : Int) k := by rw [lostN_nat]; rfl

set_option maxRecDepth 100000 in
set_option maxHeartbeats 8000000 in
theorem round_mid_false (more : Bool) {v : Value} {N d : Nat} (e : Int) (w : World) (hs : SliceV w v N d) (hd : d ≤ 3000) (hN : N ≠ 0) (e0 : -100000 ≤ e) (e1 : e ≤ 2000) :
    Calls Try.prog 43 #[.bool false, v, .int .i64 e, .bool more] w fun r w' => r = .returned (.int .u64 (fbits false N e more)) ∧ Below w.heap.size w w' := by
  have hb := bl_slice hs
  obtain ⟨L, hL⟩ : ∃ L, Pl.bl N = L := ⟨_, rfl⟩
  obtain ⟨u, hun⟩ : ∃ u, Pl.un N e = u := ⟨_, rfl⟩
  obtain ⟨F, hF⟩ : ∃ F, fbits false N e more = F := ⟨_, rfl⟩
  rw [hF]
  have hue : u = max (e + (L : Int) - 53) (-1074) := by rw [← hun, ← hL]; rfl
  have h0 : 0 < L := by rw [← hL]; exact Pl.bl_pos hN
  rw [hL] at hb
  have HU := Lib.hid hun
  have HE := Lib.hid hue
  have HL := Lib.hid hL
  have HS := Lib.hid hs
  have HF := Lib.hid hF
  have u0 : -1074 ≤ u := by omega
  have u1 : u ≤ 98000 := by omega
  have hL1 : (L : Int) ≤ 96000 := by omega
  have h3 : ((L : Int) == 0) = false := by simp; omega
  have h4 : decide (e < -100000) = false := by simp; omega
  have h5 : decide (2000 < e) = false := by simp; omega
  clear hL hs hun hue hF
  go_enter Try.func43, Try.ntmps43
  go_upto_if 41 with (go_at_call 75; refine (rlen_v HS.out (by omega)).mono ?_; rw [HL.out]; rintro r w1 ⟨rfl, hb1⟩)
  go_cut [11] (fun uv wx => uv = .int .i64 u ∧ wx = w1)
  case first =>
    go_wp2
    all_goals (go_meet; exact ⟨vi (by have := HE.out; omega), rfl⟩)
  case rest =>
    obtain ⟨rfl, rfl⟩ := hcut
    by_cases hue : u ≤ e
    · have h6 : decide (u ≤ e) = true := by simpa using hue
      obtain ⟨k, hk⟩ : ∃ k : Nat, e - u = k := ⟨(e - u).toNat, by omega⟩
      obtain ⟨m1, mf⟩ := mag_bits_up false more hN HU.out.symm (by omega) hk
      have hk1 : k ≤ 4000 := by omega
      obtain ⟨M, hM⟩ : ∃ M, N * 2 ^ k = M := ⟨_, rfl⟩
      rw [hM] at m1 mf
      have HM := Lib.hid hM
      have HZ := Lib.hid (from_zero m1)
      have HP := Lib.hid (Packs.mk (Nat.le_of_lt m1) (mf.trans HF.out))
      have HLT := Lib.hid (show M < Pl.B32 ^ 2 by unfold Pl.B32; omega)
      clear hM mf
      go_upto_if 44 with (fail)
      go_cut [12, 13, 14, 15] (fun mv a b c wx => ∃ X : Nat, mv = .int .u64 X ∧ Packs false u F X ∧ Below w.heap.size w wx)
      case first =>
        go_wp2_with (first | (go_at_call 41; refine (up_v k (HS.out.below hb1) (by omega) (by omega)).mono ?_; rw [HM.out]; rintro r w2 ⟨v2, rfl, hv2, hb2⟩) | (go_at_call 76; refine (from_v 0 (hv2.slice HLT.out) (by omega)).mono ?_; rw [HZ.out]; rintro r w3 ⟨rfl, rfl⟩))
        go_meet
        exact ⟨M, rfl, HP.out, hb1.trans (hb2.mono hb1.size)⟩
      case rest =>
        clear HP HZ HM HLT m1 h6 hue hk hk1
        obtain ⟨X, rfl, hp, hB⟩ := hcut
        have hX := hp.le
        have HP := Lib.hid hp.eq
        clear hp
        rcases Nat.lt_trichotomy X 9007199254740992 with hx | hx | hx
        · have t1 : ((X : Int) == 9007199254740992) = false := by simp; omega
          by_cases hx2 : X < 4503599627370496
          · have t2 : decide ((X : Int) < 4503599627370496) = true := by simp; omega
            go_wp2
            go_ret
            exact ⟨retI (by rw [← HP.out]; clear t1 t2; unfold packI sb; (repeat' split) <;> simp_all <;> omega), hB⟩
          · have t2 : decide ((X : Int) < 4503599627370496) = false := by simp; omega
            by_cases hx3 : 2047 ≤ u + 1075
            · have t3 : decide (2047 ≤ u + 1075) = true := by simpa using hx3
              go_wp2
              go_ret
              exact ⟨retI (by rw [← HP.out]; clear t1 t2 t3; unfold packI sb INFI; (repeat' split) <;> simp_all <;> omega), hB⟩
            · have t3 : decide (2047 ≤ u + 1075) = false := by simpa using hx3
              go_wp2
              go_ret
              exact ⟨retI (by rw [← HP.out]; clear t1 t2 t3; unfold packI sb INFI; (repeat' split) <;> simp_all <;> omega), hB⟩
        · subst hx
          by_cases hx3 : 2047 ≤ u + 1 + 1075
          · have t3 : decide (2047 ≤ u + 1 + 1075) = true := by simpa using hx3
            go_wp2
            go_ret
            exact ⟨retI (by rw [← HP.out]; clear t3; unfold packI sb INFI; (repeat' split) <;> simp_all <;> omega), hB⟩
          · have t3 : decide (2047 ≤ u + 1 + 1075) = false := by simpa using hx3
            go_wp2
            go_ret
            exact ⟨retI (by rw [← HP.out]; clear t3; unfold packI sb INFI; (repeat' split) <;> simp_all <;> omega), hB⟩
        · omega
    · have h6 : decide (u ≤ e) = false := by simpa using hue
      obtain ⟨k, hk⟩ : ∃ k : Nat, u - e = (k : Int) + 1 := ⟨(u - e - 1).toNat, by omega⟩
      obtain ⟨m1, m2, m3, mf⟩ := mag_bits_down false more hN HU.out.symm hk
      have hk1 : k ≤ 300000 := by omega
      have hr : Pl.rne N (k + 1) more = N / 2 ^ (k + 1) + if (bitB N k && (lowB N k || more || decide (N / 2 ^ (k + 1) % 2 = 1))) = true then 1 else 0 := rne_bits N k more
      have HZ := Lib.hid (from_small m3)
      obtain ⟨M, hM⟩ : ∃ M, N / 2 ^ (k + 1) = M := ⟨_, rfl⟩
      rw [hM] at hr m3
      rw [hr] at m1 mf
      have HM := Lib.hid hM
      have HP := Lib.hid (Packs.mk m1 (mf.trans HF.out))
      have hPM : ((M : Int) % 2 == 1) = decide (M % 2 = 1) := by
        rw [Bool.eq_iff_iff]; simp; omega
      clear hM mf m1 m2 hr hue
      generalize hB : bitB N k = B at *
      generalize hD : lowB N k = D at *
      generalize hP : decide (M % 2 = 1) = P at *
      go_upto_if 44 with (fail)
      go_cut [12, 13, 14, 15] (fun mv a b c wx => ∃ X : Nat, mv = .int .u64 X ∧ Packs false u F X ∧ Below w.heap.size w wx)
      case first =>
        have arms : True := trivial
        clear arms
        cases B
        · go_wp2_with (first | (go_at_call 76; refine (from_v (k + 1) (HS.out.below hb1) (by omega)).mono ?_; rw [HZ.out, HM.out]; rintro r w3 ⟨rfl, rfl⟩) | (go_at_call 71; refine (bit_v k (HS.out.below hb1) (by omega)).mono ?_; rw [hB]; rintro r w4 ⟨rfl, rfl⟩) | (go_at_call 77; refine (rlow_v k (HS.out.below hb1) (by omega)).mono ?_; rw [hD]; rintro r w5 ⟨rfl, rfl⟩))
          all_goals (go_meet; exact ⟨_, by go_num, HP.out, hb1⟩)
        · cases D
          · cases more
            · cases P
              · go_wp2_with (first | (go_at_call 76; refine (from_v (k + 1) (HS.out.below hb1) (by omega)).mono ?_; rw [HZ.out, HM.out]; rintro r w3 ⟨rfl, rfl⟩) | (go_at_call 71; refine (bit_v k (HS.out.below hb1) (by omega)).mono ?_; rw [hB]; rintro r w4 ⟨rfl, rfl⟩) | (go_at_call 77; refine (rlow_v k (HS.out.below hb1) (by omega)).mono ?_; rw [hD]; rintro r w5 ⟨rfl, rfl⟩))
                all_goals (go_meet; exact ⟨_, by go_num, HP.out, hb1⟩)
              · go_wp2_with (first | (go_at_call 76; refine (from_v (k + 1) (HS.out.below hb1) (by omega)).mono ?_; rw [HZ.out, HM.out]; rintro r w3 ⟨rfl, rfl⟩) | (go_at_call 71; refine (bit_v k (HS.out.below hb1) (by omega)).mono ?_; rw [hB]; rintro r w4 ⟨rfl, rfl⟩) | (go_at_call 77; refine (rlow_v k (HS.out.below hb1) (by omega)).mono ?_; rw [hD]; rintro r w5 ⟨rfl, rfl⟩))
                all_goals (go_meet; exact ⟨_, by go_num, HP.out, hb1⟩)
            · go_wp2_with (first | (go_at_call 76; refine (from_v (k + 1) (HS.out.below hb1) (by omega)).mono ?_; rw [HZ.out, HM.out]; rintro r w3 ⟨rfl, rfl⟩) | (go_at_call 71; refine (bit_v k (HS.out.below hb1) (by omega)).mono ?_; rw [hB]; rintro r w4 ⟨rfl, rfl⟩) | (go_at_call 77; refine (rlow_v k (HS.out.below hb1) (by omega)).mono ?_; rw [hD]; rintro r w5 ⟨rfl, rfl⟩))
              all_goals (go_meet; exact ⟨_, by go_num, HP.out, hb1⟩)
          · go_wp2_with (first | (go_at_call 76; refine (from_v (k + 1) (HS.out.below hb1) (by omega)).mono ?_; rw [HZ.out, HM.out]; rintro r w3 ⟨rfl, rfl⟩) | (go_at_call 71; refine (bit_v k (HS.out.below hb1) (by omega)).mono ?_; rw [hB]; rintro r w4 ⟨rfl, rfl⟩) | (go_at_call 77; refine (rlow_v k (HS.out.below hb1) (by omega)).mono ?_; rw [hD]; rintro r w5 ⟨rfl, rfl⟩))
            all_goals (go_meet; exact ⟨_, by go_num, HP.out, hb1⟩)
      case rest =>
        clear HP HZ HM m3 h6 hk hk1 hB hD hP hPM
        obtain ⟨X, rfl, hp, hB⟩ := hcut
        have hX := hp.le
        have HP := Lib.hid hp.eq
        clear hp
        rcases Nat.lt_trichotomy X 9007199254740992 with hx | hx | hx
        · have t1 : ((X : Int) == 9007199254740992) = false := by simp; omega
          by_cases hx2 : X < 4503599627370496
          · have t2 : decide ((X : Int) < 4503599627370496) = true := by simp; omega
            go_wp2
            go_ret
            exact ⟨retI (by rw [← HP.out]; clear t1 t2; unfold packI sb; (repeat' split) <;> simp_all <;> omega), hB⟩
          · have t2 : decide ((X : Int) < 4503599627370496) = false := by simp; omega
            by_cases hx3 : 2047 ≤ u + 1075
            · have t3 : decide (2047 ≤ u + 1075) = true := by simpa using hx3
              go_wp2
              go_ret
              exact ⟨retI (by rw [← HP.out]; clear t1 t2 t3; unfold packI sb INFI; (repeat' split) <;> simp_all <;> omega), hB⟩
            · have t3 : decide (2047 ≤ u + 1075) = false := by simpa using hx3
              go_wp2
              go_ret
              exact ⟨retI (by rw [← HP.out]; clear t1 t2 t3; unfold packI sb INFI; (repeat' split) <;> simp_all <;> omega), hB⟩
        · subst hx
          by_cases hx3 : 2047 ≤ u + 1 + 1075
          · have t3 : decide (2047 ≤ u + 1 + 1075) = true := by simpa using hx3
            go_wp2
            go_ret
            exact ⟨retI (by rw [← HP.out]; clear t3; unfold packI sb INFI; (repeat' split) <;> simp_all <;> omega), hB⟩
          · have t3 : decide (2047 ≤ u + 1 + 1075) = false := by simpa using hx3
            go_wp2
            go_ret
            exact ⟨retI (by rw [← HP.out]; clear t3; unfold packI sb INFI; (repeat' split) <;> simp_all <;> omega), hB⟩
        · omega
set_option maxRecDepth 100000 in
set_option maxHeartbeats 8000000 in
theorem round_mid_true (more : Bool) {v : Value} {N d : Nat} (e : Int) (w : World) (hs : SliceV w v N d) (hd : d ≤ 3000) (hN : N ≠ 0) (e0 : -100000 ≤ e) (e1 : e ≤ 2000) :
    Calls Try.prog 43 #[.bool true, v, .int .i64 e, .bool more] w fun r w' => r = .returned (.int .u64 (fbits true N e more)) ∧ Below w.heap.size w w' := by
  have hb := bl_slice hs
  obtain ⟨L, hL⟩ : ∃ L, Pl.bl N = L := ⟨_, rfl⟩
  obtain ⟨u, hun⟩ : ∃ u, Pl.un N e = u := ⟨_, rfl⟩
  obtain ⟨F, hF⟩ : ∃ F, fbits true N e more = F := ⟨_, rfl⟩
  rw [hF]
  have hue : u = max (e + (L : Int) - 53) (-1074) := by rw [← hun, ← hL]; rfl
  have h0 : 0 < L := by rw [← hL]; exact Pl.bl_pos hN
  rw [hL] at hb
  have HU := Lib.hid hun
  have HE := Lib.hid hue
  have HL := Lib.hid hL
  have HS := Lib.hid hs
  have HF := Lib.hid hF
  have u0 : -1074 ≤ u := by omega
  have u1 : u ≤ 98000 := by omega
  have hL1 : (L : Int) ≤ 96000 := by omega
  have h3 : ((L : Int) == 0) = false := by simp; omega
  have h4 : decide (e < -100000) = false := by simp; omega
  have h5 : decide (2000 < e) = false := by simp; omega
  clear hL hs hun hue hF
  go_enter Try.func43, Try.ntmps43
  go_upto_if 41 with (go_at_call 75; refine (rlen_v HS.out (by omega)).mono ?_; rw [HL.out]; rintro r w1 ⟨rfl, hb1⟩)
  go_cut [11] (fun uv wx => uv = .int .i64 u ∧ wx = w1)
  case first =>
    go_wp2
    all_goals (go_meet; exact ⟨vi (by have := HE.out; omega), rfl⟩)
  case rest =>
    obtain ⟨rfl, rfl⟩ := hcut
    by_cases hue : u ≤ e
    · have h6 : decide (u ≤ e) = true := by simpa using hue
      obtain ⟨k, hk⟩ : ∃ k : Nat, e - u = k := ⟨(e - u).toNat, by omega⟩
      obtain ⟨m1, mf⟩ := mag_bits_up true more hN HU.out.symm (by omega) hk
      have hk1 : k ≤ 4000 := by omega
      obtain ⟨M, hM⟩ : ∃ M, N * 2 ^ k = M := ⟨_, rfl⟩
      rw [hM] at m1 mf
      have HM := Lib.hid hM
      have HZ := Lib.hid (from_zero m1)
      have HP := Lib.hid (Packs.mk (Nat.le_of_lt m1) (mf.trans HF.out))
      have HLT := Lib.hid (show M < Pl.B32 ^ 2 by unfold Pl.B32; omega)
      clear hM mf
      go_upto_if 44 with (fail)
      go_cut [12, 13, 14, 15] (fun mv a b c wx => ∃ X : Nat, mv = .int .u64 X ∧ Packs true u F X ∧ Below w.heap.size w wx)
      case first =>
        go_wp2_with (first | (go_at_call 41; refine (up_v k (HS.out.below hb1) (by omega) (by omega)).mono ?_; rw [HM.out]; rintro r w2 ⟨v2, rfl, hv2, hb2⟩) | (go_at_call 76; refine (from_v 0 (hv2.slice HLT.out) (by omega)).mono ?_; rw [HZ.out]; rintro r w3 ⟨rfl, rfl⟩))
        go_meet
        exact ⟨M, rfl, HP.out, hb1.trans (hb2.mono hb1.size)⟩
      case rest =>
        clear HP HZ HM HLT m1 h6 hue hk hk1
        obtain ⟨X, rfl, hp, hB⟩ := hcut
        have hX := hp.le
        have HP := Lib.hid hp.eq
        clear hp
        rcases Nat.lt_trichotomy X 9007199254740992 with hx | hx | hx
        · have t1 : ((X : Int) == 9007199254740992) = false := by simp; omega
          by_cases hx2 : X < 4503599627370496
          · have t2 : decide ((X : Int) < 4503599627370496) = true := by simp; omega
            go_wp2
            go_ret
            exact ⟨retI (by rw [← HP.out]; clear t1 t2; unfold packI sb; (repeat' split) <;> simp_all <;> omega), hB⟩
          · have t2 : decide ((X : Int) < 4503599627370496) = false := by simp; omega
            by_cases hx3 : 2047 ≤ u + 1075
            · have t3 : decide (2047 ≤ u + 1075) = true := by simpa using hx3
              go_wp2
              go_ret
              exact ⟨retI (by rw [← HP.out]; clear t1 t2 t3; unfold packI sb INFI; (repeat' split) <;> simp_all <;> omega), hB⟩
            · have t3 : decide (2047 ≤ u + 1075) = false := by simpa using hx3
              go_wp2
              go_ret
              exact ⟨retI (by rw [← HP.out]; clear t1 t2 t3; unfold packI sb INFI; (repeat' split) <;> simp_all <;> omega), hB⟩
        · subst hx
          by_cases hx3 : 2047 ≤ u + 1 + 1075
          · have t3 : decide (2047 ≤ u + 1 + 1075) = true := by simpa using hx3
            go_wp2
            go_ret
            exact ⟨retI (by rw [← HP.out]; clear t3; unfold packI sb INFI; (repeat' split) <;> simp_all <;> omega), hB⟩
          · have t3 : decide (2047 ≤ u + 1 + 1075) = false := by simpa using hx3
            go_wp2
            go_ret
            exact ⟨retI (by rw [← HP.out]; clear t3; unfold packI sb INFI; (repeat' split) <;> simp_all <;> omega), hB⟩
        · omega
    · have h6 : decide (u ≤ e) = false := by simpa using hue
      obtain ⟨k, hk⟩ : ∃ k : Nat, u - e = (k : Int) + 1 := ⟨(u - e - 1).toNat, by omega⟩
      obtain ⟨m1, m2, m3, mf⟩ := mag_bits_down true more hN HU.out.symm hk
      have hk1 : k ≤ 300000 := by omega
      have hr : Pl.rne N (k + 1) more = N / 2 ^ (k + 1) + if (bitB N k && (lowB N k || more || decide (N / 2 ^ (k + 1) % 2 = 1))) = true then 1 else 0 := rne_bits N k more
      have HZ := Lib.hid (from_small m3)
      obtain ⟨M, hM⟩ : ∃ M, N / 2 ^ (k + 1) = M := ⟨_, rfl⟩
      rw [hM] at hr m3
      rw [hr] at m1 mf
      have HM := Lib.hid hM
      have HP := Lib.hid (Packs.mk m1 (mf.trans HF.out))
      have hPM : ((M : Int) % 2 == 1) = decide (M % 2 = 1) := by
        rw [Bool.eq_iff_iff]; simp; omega
      clear hM mf m1 m2 hr hue
      generalize hB : bitB N k = B at *
      generalize hD : lowB N k = D at *
      generalize hP : decide (M % 2 = 1) = P at *
      go_upto_if 44 with (fail)
      go_cut [12, 13, 14, 15] (fun mv a b c wx => ∃ X : Nat, mv = .int .u64 X ∧ Packs true u F X ∧ Below w.heap.size w wx)
      case first =>
        have arms : True := trivial
        clear arms
        cases B
        · go_wp2_with (first | (go_at_call 76; refine (from_v (k + 1) (HS.out.below hb1) (by omega)).mono ?_; rw [HZ.out, HM.out]; rintro r w3 ⟨rfl, rfl⟩) | (go_at_call 71; refine (bit_v k (HS.out.below hb1) (by omega)).mono ?_; rw [hB]; rintro r w4 ⟨rfl, rfl⟩) | (go_at_call 77; refine (rlow_v k (HS.out.below hb1) (by omega)).mono ?_; rw [hD]; rintro r w5 ⟨rfl, rfl⟩))
          all_goals (go_meet; exact ⟨_, by go_num, HP.out, hb1⟩)
        · cases D
          · cases more
            · cases P
              · go_wp2_with (first | (go_at_call 76; refine (from_v (k + 1) (HS.out.below hb1) (by omega)).mono ?_; rw [HZ.out, HM.out]; rintro r w3 ⟨rfl, rfl⟩) | (go_at_call 71; refine (bit_v k (HS.out.below hb1) (by omega)).mono ?_; rw [hB]; rintro r w4 ⟨rfl, rfl⟩) | (go_at_call 77; refine (rlow_v k (HS.out.below hb1) (by omega)).mono ?_; rw [hD]; rintro r w5 ⟨rfl, rfl⟩))
                all_goals (go_meet; exact ⟨_, by go_num, HP.out, hb1⟩)
              · go_wp2_with (first | (go_at_call 76; refine (from_v (k + 1) (HS.out.below hb1) (by omega)).mono ?_; rw [HZ.out, HM.out]; rintro r w3 ⟨rfl, rfl⟩) | (go_at_call 71; refine (bit_v k (HS.out.below hb1) (by omega)).mono ?_; rw [hB]; rintro r w4 ⟨rfl, rfl⟩) | (go_at_call 77; refine (rlow_v k (HS.out.below hb1) (by omega)).mono ?_; rw [hD]; rintro r w5 ⟨rfl, rfl⟩))
                all_goals (go_meet; exact ⟨_, by go_num, HP.out, hb1⟩)
            · go_wp2_with (first | (go_at_call 76; refine (from_v (k + 1) (HS.out.below hb1) (by omega)).mono ?_; rw [HZ.out, HM.out]; rintro r w3 ⟨rfl, rfl⟩) | (go_at_call 71; refine (bit_v k (HS.out.below hb1) (by omega)).mono ?_; rw [hB]; rintro r w4 ⟨rfl, rfl⟩) | (go_at_call 77; refine (rlow_v k (HS.out.below hb1) (by omega)).mono ?_; rw [hD]; rintro r w5 ⟨rfl, rfl⟩))
              all_goals (go_meet; exact ⟨_, by go_num, HP.out, hb1⟩)
          · go_wp2_with (first | (go_at_call 76; refine (from_v (k + 1) (HS.out.below hb1) (by omega)).mono ?_; rw [HZ.out, HM.out]; rintro r w3 ⟨rfl, rfl⟩) | (go_at_call 71; refine (bit_v k (HS.out.below hb1) (by omega)).mono ?_; rw [hB]; rintro r w4 ⟨rfl, rfl⟩) | (go_at_call 77; refine (rlow_v k (HS.out.below hb1) (by omega)).mono ?_; rw [hD]; rintro r w5 ⟨rfl, rfl⟩))
            all_goals (go_meet; exact ⟨_, by go_num, HP.out, hb1⟩)
      case rest =>
        clear HP HZ HM m3 h6 hk hk1 hB hD hP hPM
        obtain ⟨X, rfl, hp, hB⟩ := hcut
        have hX := hp.le
        have HP := Lib.hid hp.eq
        clear hp
        rcases Nat.lt_trichotomy X 9007199254740992 with hx | hx | hx
        · have t1 : ((X : Int) == 9007199254740992) = false := by simp; omega
          by_cases hx2 : X < 4503599627370496
          · have t2 : decide ((X : Int) < 4503599627370496) = true := by simp; omega
            go_wp2
            go_ret
            exact ⟨retI (by rw [← HP.out]; clear t1 t2; unfold packI sb; (repeat' split) <;> simp_all <;> omega), hB⟩
          · have t2 : decide ((X : Int) < 4503599627370496) = false := by simp; omega
            by_cases hx3 : 2047 ≤ u + 1075
            · have t3 : decide (2047 ≤ u + 1075) = true := by simpa using hx3
              go_wp2
              go_ret
              exact ⟨retI (by rw [← HP.out]; clear t1 t2 t3; unfold packI sb INFI; (repeat' split) <;> simp_all <;> omega), hB⟩
            · have t3 : decide (2047 ≤ u + 1075) = false := by simpa using hx3
              go_wp2
              go_ret
              exact ⟨retI (by rw [← HP.out]; clear t1 t2 t3; unfold packI sb INFI; (repeat' split) <;> simp_all <;> omega), hB⟩
        · subst hx
          by_cases hx3 : 2047 ≤ u + 1 + 1075
          · have t3 : decide (2047 ≤ u + 1 + 1075) = true := by simpa using hx3
            go_wp2
            go_ret
            exact ⟨retI (by rw [← HP.out]; clear t3; unfold packI sb INFI; (repeat' split) <;> simp_all <;> omega), hB⟩
          · have t3 : decide (2047 ≤ u + 1 + 1075) = false := by simpa using hx3
            go_wp2
            go_ret
            exact ⟨retI (by rw [← HP.out]; clear t3; unfold packI sb INFI; (repeat' split) <;> simp_all <;> omega), hB⟩
        · omega
theorem round_any (neg more : Bool) {v : Value} {N d : Nat} (e : Int) (w : World) (hs : SliceV w v N d) (hd : d ≤ 3000) (e0 : -9223372036854775808 ≤ e) :
    Calls Try.prog 43 #[.bool neg, v, .int .i64 e, .bool more] w fun r w' => r = .returned (.int .u64 (fbits neg N e more)) ∧ Below w.heap.size w w' := by
  by_cases h : N = 0 ∨ e < -100000
  · exact round_far neg more e w hs hd e0 h
  · have hN : N ≠ 0 := fun g => h (.inl g)
    by_cases h2 : 2000 < e
    · exact round_high neg more e w hs hd hN h2
    · cases neg
      · exact round_mid_false more e w hs hd hN (by omega) (by omega)
      · exact round_mid_true more e w hs hd hN (by omega) (by omega)
end Go.Proofs.Ytmjaoeafompclaa

namespace Go.Proofs.Ytmjaoeafompclaa
open Go.RowKit Go.Shelf

theorem right_len {l : List Nat} {n k : Nat} (hf : Pl.Fit l) (hl : l.length = n) (hk : k ≤ n) (hz : ∀ i, k ≤ i → i < n → l.getD i 0 = 0) (h : 0 < k → l.getD (k - 1) 0 ≠ 0) : k = (Pl.limbs (Pl.val l)).length := by
  rw [← Pl.limbs_take hf (by omega) (fun i h1 h2 => hz i h1 (by omega)) h, List.length_take]; omega

set_option maxHeartbeats 1000000 in
theorem right_n (A : Option Addr) (n c : Nat) (l : List Nat) (w : World) (hl : Lim w A n l) (hc : n ≤ c) (hcm : c ≤ maxLen) :
    Calls Try.prog 99 #[.slice A n c] w fun e w' => e = .returned (.int .i64 (Pl.limbs (Pl.val l)).length) ∧ w = w' := by
  have hlen := Lib.hid hl.len
  have hfit := hl.fit
  have HL := Lib.hid hl
  unfold maxLen at hcm
  clear hl
  go_enter Try.func99, Try.ntmps99
  go_wp2
  go_loop [3] (fun nv => ∃ k : Nat, nv = .int .i64 k ∧ k ≤ n ∧ ∀ i, k ≤ i → i < n → l.getD i 0 = 0) (fun nv => (intOf nv).toNat)
  case atStart => exact ⟨n, rfl, Nat.le_refl _, fun i h1 h2 => by omega⟩
  case round =>
    obtain ⟨k, rfl, hk, hz⟩ := hrel
    have HZ := Lib.hid hz
    clear hz
    rcases Nat.eq_zero_or_pos k with h0 | h0
    · subst h0
      go_wp2
      go_ret
      exact ⟨retI (by rw [← right_len hfit hlen.out hk HZ.out (fun h => absurd h (by omega))]; rfl), rfl⟩
    · obtain ⟨j, rfl⟩ : ∃ j, k = j + 1 := ⟨k - 1, by omega⟩
      obtain ⟨ad, hA, hadb, hcell⟩ := HL.out.at_ (k := j) (by omega)
      subst hA
      have hx := hfit.get j
      obtain ⟨x, hxe⟩ : ∃ x, l.getD j 0 = x := ⟨_, rfl⟩
      rw [hxe] at hcell hx
      have HX := Lib.hid hxe
      clear hxe
      rcases Nat.eq_zero_or_pos x with hx0 | hx0
      · subst hx0
        go_wp2
        go_round
        case rel => exact ⟨j, by go_num, by omega, fun i h1 h2 => by
          rcases Nat.eq_or_lt_of_le h1 with g | g
          · subst g; exact HX.out
          · exact HZ.out i g h2⟩
        case measure => simp [intOf]
      · have hne : ((x : Int) == 0) = false := by simp; omega
        go_wp2
        go_ret
        exact ⟨retI (by rw [← right_len hfit hlen.out hk HZ.out (fun h => by rw [Nat.add_sub_cancel, HX.out]; omega)]; omega), rfl⟩

theorem limbs_is_take : ∀ {l : List Nat}, Pl.Fit l → Pl.limbs (Pl.val l) = l.take (Pl.limbs (Pl.val l)).length
  | [], _ => by rw [show Pl.val [] = 0 from rfl, Pl.limbs_zero]; rfl
  | x :: l, hf => by
    have ih := limbs_is_take hf.tail
    by_cases h : x + Pl.B32 * Pl.val l = 0
    · rw [show Pl.val (x :: l) = 0 from h, Pl.limbs_zero]; rfl
    · have e : Pl.limbs (Pl.val (x :: l)) = x :: Pl.limbs (Pl.val l) := by
        show Pl.limbs (x + Pl.B32 * Pl.val l) = _
        rw [Pl.limbs_pos h, Nat.add_mul_mod_self_left, Nat.mod_eq_of_lt hf.head, Nat.add_mul_div_left _ _ Pl.B32_pos, Nat.div_eq_of_lt hf.head, Nat.zero_add]
      rw [e, List.length_cons, List.take_succ_cons, ← ih]
theorem Lim.src {w w' : World} {A : Option Addr} {n k : Nat} {l : List Nat} (h : Lim w A n l) (hk : k ≤ n) (hb : Below w.heap.size w w') (g : Nat) : 0 < ((l.take k).map lv).length →
    (some (⟨g, 0, none⟩ : Addr) = some ⟨g, 0, none⟩) ∧ ∃ ad, A = some ad ∧ ∀ j v, ((l.take k).map lv)[j]? = some v → w'.cell? (ad.add j) = some v := fun h0 => by
  have hr := ((h.take hk).below hb).reads
  rw [List.length_map, ((h.take hk).below hb).len] at h0
  obtain ⟨ad, hA, _, hc⟩ := hr.2 h0
  exact ⟨rfl, ad, hA, hc⟩
theorem Lim.take_len {w : World} {A : Option Addr} {n k : Nat} {l : List Nat} (h : Lim w A n l) (hk : k ≤ n) : ((l.take k).map lv).length = Nat.min n k := by
  rw [List.length_map, (h.take hk).len]
  exact (Nat.min_eq_right hk).symm
theorem zeros_len (k : Nat) : ((List.replicate k 0).map lv).length = k := by rw [List.length_map, List.length_replicate]

/-- A row that is owned with no room to spare is its block. -/
theorem own_block {w : World} {base : Nat} {e : TypeId} {g k : Nat} {xs : List Value} (h : w.ownsRow base e 1 (.slice (some ⟨g, 0, none⟩) k k) k xs) : w.heap[g]? = some (.cells xs.toArray e (0, 0)) ∧ base ≤ g := by
  rcases h.2 with ⟨h0, _⟩ | ⟨g', cap, cur, h1, h2, h3, h4, h5, h6, h7⟩
  · cases h0
  · injection h1 with h1 _ hcap
    injection h1 with h1
    injection h1 with h1
    subst h1
    subst hcap
    have : cur = xs.toArray := by
      rw [← h7, Nat.mul_one, List.take_of_length_le (by rw [Array.length_toList]; omega)]
    rw [← this]
    exact ⟨h3, h2⟩
theorem block_own {w : World} {base g k : Nat} {e : TypeId} {xs : List Value} (h : w.heap[g]? = some (.cells xs.toArray e (0, 0))) (hb : base ≤ g) (hk : xs.length = k) (hm : k ≤ maxLen) : w.ownsRow base e 1 (.slice (some ⟨g, 0, none⟩) k k) k xs :=
  ⟨by omega, .inr ⟨g, k, xs.toArray, rfl, hb, h, Nat.le_refl _, hm, by simp [hk], by simp [← hk]⟩⟩
theorem splice_all (cur cs : List Value) (h : cur.length = cs.length) : splice cur 0 cs = cs := by
  unfold splice
  simp [h]

set_option maxHeartbeats 1000000 in
theorem ntrim_any (A : Option Addr) (n c : Nat) (l : List Nat) (w : World) (hl : Lim w A n l) (hc : n ≤ c) (hcm : c ≤ maxLen) (hn : n ≤ 1048576) :
    Calls Try.prog 85 #[.slice A n c] w (RetNat (Pl.val l) w) := by
  obtain ⟨i0, hi0, hz0, hz1, hz2⟩ := info_parts u32_info
  have hsz : (Try.prog.info? 77).map (·.size) = some 1 := by kernel_rfl
  obtain ⟨k, hk⟩ : ∃ k, (Pl.limbs (Pl.val l)).length = k := ⟨_, rfl⟩
  have hkn : k ≤ n := by
    have := Pl.limbs_len_le (Pl.val_lt hl.fit)
    rw [hl.len, hk] at this; exact this
  have hR := right_n A n c l w hl hc hcm
  rw [hk] at hR
  have ht : l.take k = Pl.limbs (Pl.val l) := by rw [← hk]; exact (limbs_is_take hl.fit).symm
  have HR := Lib.hid hR
  have HT := Lib.hid ht
  have HK := Lib.hid hk
  have HL := Lib.hid hl
  clear hR ht hk hl
  go_enter Try.func85, Try.ntmps85
  go_wp2_with (first
    | (go_at_call 99; refine HR.out.mono ?_; rintro e w' ⟨rfl, rfl⟩)
    | (at_make; refine wpList_make_full _ rfl _ _ _ rfl w.heap.size 77 i0 _ 1 Try.underlying57 hi0 hz0 hz1 .i64 .i64 _ _ k rfl rfl rfl rfl (by rw [hz2]; omega) (by unfold maxLen; omega) (Nat.le_refl _) ?_; intro w1 hown1 hg1; rw [made_zero] at hown1; have hB1 := (Below.refl w.heap.size w).grown hg1 (Nat.le_refl _) (by simp))
    | (with_reducible refine wpList_copy_splice rfl (.tmp 7) (.tmp 8) _ _ rfl 77 Try.underlying57 hsz (some ⟨w.heap.size, 0, none⟩) A k k n c rfl rfl w.heap.size 0 ((List.replicate k 0).map lv) 77 (own_block hown1).1 ((l.take k).map lv) (HL.out.take_len hkn) (HL.out.src hkn hB1 _) (by rw [HL.out.take_len hkn, zeros_len]; simp; exact Nat.min_le_right _ _) (one_limbs _) w.heap.size w hB1 (Nat.le_refl _) ?_; intro w2 hw2 hB2))
  go_ret
  have hw := hw2.out
  rw [splice_all _ _ (by rw [zeros_len, HL.out.take_len hkn]; exact (Nat.min_eq_right hkn).symm)] at hw
  exact ⟨_, rfl, NatV.of_own (block_own hw (Nat.le_refl _) (by rw [HL.out.take_len hkn]; exact Nat.min_eq_right hkn) (by unfold maxLen; omega)) HT.out, hB2⟩
theorem ntrim_v {w : World} {v : Value} {N d : Nat} (h : SliceV w v N d) (hd : d ≤ 1048576) : Calls Try.prog 85 #[v] w (RetNat N w) := by
  obtain ⟨A, n, c, l, rfl, h1, h2, hl, rfl, hd'⟩ := h
  exact ntrim_any A n c l w hl h1 h2 (by omega)
end Go.Proofs.Ytmjaoeafompclaa

namespace Go.Proofs.Ytmjaoeafompclaa
open Go.RowKit Go.Shelf

theorem cut_len {l : List Nat} {n : Nat} (hf : Pl.Fit l) (hl : l.length = n) : (Pl.limbs (Pl.val l)).length ≤ n := by
  have := Pl.limbs_len_le (Pl.val_lt hf)
  rw [hl] at this; exact this
theorem Lim.cut {w : World} {A : Option Addr} {n : Nat} {l : List Nat} (h : Lim w A n l) : Lim w A (Pl.limbs (Pl.val l)).length (Pl.limbs (Pl.val l)) := by
  have h1 := h.take (cut_len h.fit h.len)
  rw [← limbs_is_take h.fit] at h1
  exact h1

set_option maxHeartbeats 1000000 in
theorem ncut_any (A : Option Addr) (n c : Nat) (l : List Nat) (w : World) (hl : Lim w A n l) (hc : n ≤ c) (hcm : c ≤ maxLen) :
    Calls Try.prog 82 #[.slice A n c] w fun e w' => e = .returned (.slice A (Pl.limbs (Pl.val l)).length c) ∧ w = w' := by
  have hR := right_n A n c l w hl hc hcm
  have hle := cut_len hl.fit hl.len
  obtain ⟨k, hk⟩ : ∃ k, (Pl.limbs (Pl.val l)).length = k := ⟨_, rfl⟩
  rw [hk] at hR hle ⊢
  have HR := Lib.hid hR
  clear hR hk hl
  have hkc : k ≤ c := by omega
  unfold maxLen at hcm
  go_enter Try.func82, Try.ntmps82
  go_wp2_with (go_at_call 99; refine HR.out.mono ?_; rintro e w' ⟨rfl, rfl⟩)
  go_ret
  exact ⟨rfl, rfl⟩
/-- What cut answers. -/
theorem ncut_v {w : World} {v : Value} {N d : Nat} (h : SliceV w v N d) : Calls Try.prog 82 #[v] w fun e w' => ∃ A c, e = .returned (.slice A (Pl.limbs N).length c) ∧ (Pl.limbs N).length ≤ c ∧ c ≤ maxLen ∧ Lim w A (Pl.limbs N).length (Pl.limbs N) ∧ w = w' := by
  obtain ⟨A, n, c, l, rfl, h1, h2, hl, rfl, hd⟩ := h
  exact (ncut_any A n c l w hl h1 h2).mono fun e w' ⟨he, hw⟩ => ⟨A, c, he, Nat.le_trans (cut_len hl.fit hl.len) h1, h2, hl.cut, hw⟩

set_option maxHeartbeats 2000000 in
theorem over_no (ad : Addr) (k c : Nat) (vs : List Value) (w : World) (hk : vs.length = k) (hc : k ≤ c) (hcm : c ≤ maxLen)
    (hcell : ∀ j v, vs[j]? = some v → w.cell? (ad.add j) = some v) (hv : ∀ v, v ∈ vs → ∃ N, SliceV w v N 256) :
    Calls Try.prog 81 #[.slice (some ad) k c] w fun e w' => e = .returned (.bool false) ∧ w = w' := by
  unfold maxLen at hcm
  have HK := Lib.hid hk
  have HC := Lib.hid hcell
  have HV := Lib.hid hv
  clear hk hcell hv
  go_enter Try.func81, Try.ntmps81
  go_wp2
  go_loop [4, 7] (fun _ iv => ∃ i : Nat, iv = .int .i64 i ∧ i ≤ k) (fun _ iv => k - (intOf iv).toNat)
  case atStart => exact ⟨0, rfl, Nat.zero_le _⟩
  case round =>
    obtain ⟨i, rfl, hi⟩ := hrel
    by_cases hlt : i < k
    · have hil : i < vs.length := by rw [HK.out]; exact hlt
      obtain ⟨N, A, n, c2, l, hve, h1, h2, hl, hN, hd⟩ := HV.out vs[i] (List.getElem_mem hil)
      have hcell := HC.out i _ (List.getElem?_eq_getElem hil)
      rw [hve] at hcell
      have hle := cut_len hl.fit hl.len
      have hR := right_n A n c2 l w hl h1 h2
      obtain ⟨q, hq⟩ : ∃ q, (Pl.limbs (Pl.val l)).length = q := ⟨_, rfl⟩
      rw [hq] at hR hle
      have HR := Lib.hid hR
      have hq2 : decide ((256 : Int) < (q : Int)) = false := by simp; omega
      clear hR hq hve hl hN
      go_wp2_with (go_at_call 99; refine HR.out.mono ?_; rintro e w' ⟨rfl, rfl⟩)
      go_round
      case rel => exact ⟨i + 1, by go_num, by omega⟩
      case measure => simp [intOf]; omega
    · go_wp2
      go_ret
      exact ⟨rfl, rfl⟩
theorem over1 {w : World} {v : Value} {N : Nat} (h : SliceV w v N 256) (t : TypeId) : Calls Try.prog 81 #[.slice (some ⟨w.heap.size, 0, none⟩) 1 1] (w.alloc (.cells #[v] t)) fun e w' => e = .returned (.bool false) ∧ w.alloc (.cells #[v] t) = w' := by
  refine over_no ⟨w.heap.size, 0, none⟩ 1 1 [v] _ rfl (Nat.le_refl _) (by unfold maxLen; omega) ?_ ?_
  · intro j u hj
    match j, hj with
    | 0, hj => simp at hj; subst hj; simp [go_sem]
  · intro u hu
    simp at hu; subst hu
    exact ⟨N, h.alloc _⟩
theorem over2 {w : World} {v u : Value} {N M : Nat} (h : SliceV w v N 256) (k : SliceV w u M 256) (t : TypeId) : Calls Try.prog 81 #[.slice (some ⟨w.heap.size, 0, none⟩) 2 2] (w.alloc (.cells #[v, u] t)) fun e w' => e = .returned (.bool false) ∧ w.alloc (.cells #[v, u] t) = w' := by
  refine over_no ⟨w.heap.size, 0, none⟩ 2 2 [v, u] _ rfl (Nat.le_refl _) (by unfold maxLen; omega) ?_ ?_
  · intro j x hj
    match j, hj with
    | 0, hj => simp at hj; subst hj; simp [go_sem]
    | 1, hj => simp at hj; subst hj; simp [go_sem]
  · intro x hx
    simp at hx
    rcases hx with rfl | rfl
    · exact ⟨N, h.alloc _⟩
    · exact ⟨M, k.alloc _⟩
/-- A slice and no error. -/
def RetNatN (N : Nat) (w : World) (e : Ending) (w' : World) : Prop := ∃ v, e = .returned (.tuple #[v, .int .i64 0]) ∧ NatV w' v N ∧ Below w.heap.size w w'
theorem fits_any {w : World} {v : Value} {N : Nat} (h : SliceV w v N 256) : Calls Try.prog 84 #[v] w fun e w' => ∃ u, e = .returned (.tuple #[u, .int .i64 0]) ∧ NatV w u N ∧ w = w' := by
  have hle := Pl.limbs_len_le h.lt
  have HC := Lib.hid (ncut_v h)
  clear h
  obtain ⟨k, hk⟩ : ∃ k, (Pl.limbs N).length = k := ⟨_, rfl⟩
  rw [hk] at HC hle
  have hk2 : decide ((256 : Int) < (k : Int)) = false := by simp; omega
  have HK := Lib.hid hk
  clear hk
  go_enter Try.func84, Try.ntmps84
  go_wp2_with fail
  (with_reducible refine HC.out.mono ?_)
  rintro e w' ⟨A, c, rfl, h1, h2, hl, rfl⟩
  have HL := Lib.hid hl
  clear hl
  go_wp2
  go_ret2
  exact ⟨_, rfl, ⟨A, k, c, rfl, h1, h2, HL.out⟩, rfl⟩
end Go.Proofs.Ytmjaoeafompclaa

namespace Go.Proofs.Ytmjaoeafompclaa
open Go.RowKit Go.Shelf

set_option maxHeartbeats 1000000 in
theorem nlen_v {w : World} {v : Value} {N d : Nat} (h : SliceV w v N d) (hd : d ≤ 100000) : Calls Try.prog 100 #[v] w fun e w' => e = .returned (.int .i64 (Pl.bl N)) ∧ w = w' := by
  have hle := Pl.limbs_len_le h.lt
  have HC := Lib.hid (ncut_v h)
  clear h
  by_cases h0 : N = 0
  · subst h0
    have hz : (Pl.limbs 0).length = 0 := by rw [Pl.limbs_zero]; rfl
    rw [hz] at HC
    go_enter Try.func100, Try.ntmps100
    go_wp2_with fail
    (with_reducible refine HC.out.mono ?_)
    rintro e w' ⟨A, c, rfl, h1, h2, hl, rfl⟩
    clear hl
    go_wp2
    go_ret
    exact ⟨rfl, rfl⟩
  · obtain ⟨m, hm⟩ : ∃ m, (Pl.limbs N).length = m + 1 := by
      cases h : (Pl.limbs N).length with
      | zero => exact absurd (Pl.limbs_nil (List.eq_nil_of_length_eq_zero h)) h0
      | succ m => exact ⟨m, rfl⟩
    have hla := last_limb hm
    have hfx := (Pl.fit_limbs N).get m
    obtain ⟨x, hx⟩ : ∃ x, (Pl.limbs N).getD m 0 = x := ⟨_, rfl⟩
    have htop := bl_top (Pl.fit_limbs _) hm hx (by rw [← hx]; exact hla)
    rw [Pl.val_limbs] at htop
    rw [hx] at hla hfx
    unfold Pl.B32 at hfx
    have hbx : Pl.bl x ≤ 32 := Pl.bl_le_of_lt (by omega)
    rw [hm] at HC hle
    have HT := Lib.hid htop
    have HX := Lib.hid hx
    clear htop hx hm
    go_enter Try.func100, Try.ntmps100
    go_wp2_with fail
    (with_reducible refine HC.out.mono ?_)
    rintro e w' ⟨A, c, rfl, h1, h2, hl, rfl⟩
    obtain ⟨ad, hA, hadb, hcell⟩ := hl.at_ (k := m) (by omega)
    rw [HX.out] at hcell
    clear hl
    subst hA
    obtain ⟨b, hb⟩ : ∃ b, Pl.bl x = b := ⟨_, rfl⟩
    have HL := Lib.hid (len32 (x : Int) w (by omega) (by omega))
    rw [Int.toNat_natCast, hb] at HL
    rw [hb] at hbx HT
    go_wp2_with (go_at_call 104; refine HL.out.mono ?_; rintro e w' ⟨rfl, rfl⟩)
    go_ret
    exact ⟨retI (by rw [HT.out]; omega), rfl⟩

theorem ncmp_len {w : World} {a b : Value} {N M d : Nat} (ha : SliceV w a N d) (hb : SliceV w b M d) (hne : (Pl.limbs N).length ≠ (Pl.limbs M).length) :
    Calls Try.prog 54 #[a, b] w fun e w' => e = .returned (.int .i64 (cmpI N M)) ∧ Below w.heap.size w w' := by
  have HA := ncut_v ha
  have HB := ncut_v hb
  obtain ⟨p, hp⟩ : ∃ p, (Pl.limbs N).length = p := ⟨_, rfl⟩
  obtain ⟨q, hq⟩ : ∃ q, (Pl.limbs M).length = q := ⟨_, rfl⟩
  rw [hp, hq] at hne
  rw [hp] at HA
  rw [hq] at HB
  have hpd : p ≤ d := by rw [← hp]; exact Pl.limbs_len_le ha.lt
  have hqd : q ≤ d := by rw [← hq]; exact Pl.limbs_len_le hb.lt
  have HP := Lib.hid hp
  have HQ := Lib.hid hq
  replace HA := Lib.hid HA
  replace HB := Lib.hid HB
  clear ha hb hp hq
  have hn : ((p : Int) == (q : Int)) = false := by simp; omega
  have hn' : ((p : Int) != (q : Int)) = true := by simp; omega
  rcases Nat.lt_or_ge p q with g | g
  · have hr := Lib.hid (cmp_lt' (Pl.len_lt (N := N) (M := M) (by rw [HP.out, HQ.out]; exact g)))
    go_enter Try.func54, Try.ntmps54
    go_wp2_with fail
    (with_reducible refine HA.out.mono ?_)
    rintro e w1 ⟨A1, c1, rfl, h1, h2, hl1, rfl⟩
    clear hl1
    go_wp2_with fail
    (with_reducible refine HB.out.mono ?_)
    rintro e w2 ⟨A2, c2, rfl, h3, h4, hl2, rfl⟩
    clear hl2
    go_wp2
    go_ret
    exact ⟨retI hr.out.symm, Below.refl _ _⟩
  · have hn2 : ¬ p < q := by omega
    have hr := Lib.hid (cmp_gt' (Pl.len_lt (N := M) (M := N) (by rw [HP.out, HQ.out]; omega)))
    go_enter Try.func54, Try.ntmps54
    go_wp2_with fail
    (with_reducible refine HA.out.mono ?_)
    rintro e w1 ⟨A1, c1, rfl, h1, h2, hl1, rfl⟩
    clear hl1
    go_wp2_with fail
    (with_reducible refine HB.out.mono ?_)
    rintro e w2 ⟨A2, c2, rfl, h3, h4, hl2, rfl⟩
    clear hl2
    go_wp2
    go_ret
    exact ⟨retI hr.out.symm, Below.refl _ _⟩

set_option maxHeartbeats 4000000 in
theorem ncmp_same {w : World} {a b : Value} {N M d : Nat} (ha : SliceV w a N d) (hb : SliceV w b M d) (hd : d ≤ 1048576) (hne : (Pl.limbs N).length = (Pl.limbs M).length) :
    Calls Try.prog 54 #[a, b] w fun e w' => e = .returned (.int .i64 (cmpI N M)) ∧ Below w.heap.size w w' := by
  have HA := ncut_v ha
  have HB := ncut_v hb
  obtain ⟨p, hp⟩ : ∃ p, (Pl.limbs N).length = p := ⟨_, rfl⟩
  have hq := hne.symm.trans hp
  rw [hp] at HA
  rw [hq] at HB
  have hpd : p ≤ d := by rw [← hp]; exact Pl.limbs_len_le ha.lt
  have HP := Lib.hid hp
  have HQ := Lib.hid hq
  replace HA := Lib.hid HA
  replace HB := Lib.hid HB
  clear ha hb hp hq hne
  have hn : ((p : Int) == (p : Int)) = true := by simp
  go_enter Try.func54, Try.ntmps54
  go_wp2_with fail
  (with_reducible refine HA.out.mono ?_)
  rintro e w1 ⟨A1, c1, rfl, h1, h2, hl1, rfl⟩
  have HL1 := Lib.hid hl1
  clear hl1
  go_wp2_with fail
  (with_reducible refine HB.out.mono ?_)
  rintro e w2 ⟨A2, c2, rfl, h3, h4, hl2, rfl⟩
  have HL2 := Lib.hid hl2
  clear hl2
  go_wp2
  go_loopw [5, 6, 23] (fun _ _ iv wr => ∃ i m : Nat, iv = .int .i64 i ∧ i ≤ p ∧ (Pl.limbs N).drop (p - i) = (Pl.limbs M).drop (p - i) ∧ wr = w.drewN m) (fun _ _ iv _ => p - (intOf iv).toNat)
  case atStart => exact ⟨0, 0, rfl, Nat.zero_le _, by rw [List.drop_eq_nil_of_le (by rw [HP.out]; omega), List.drop_eq_nil_of_le (by rw [HQ.out]; omega)], rfl⟩
  case round =>
    obtain ⟨i, m, rfl, hi, hdr, rfl⟩ := hrel
    have HD := Lib.hid hdr
    clear hdr
    by_cases hlt : i < p
    · obtain ⟨j, hj⟩ : ∃ j, p = i + 1 + j := ⟨p - 1 - i, by omega⟩
      have hd1 : (Pl.limbs N).drop (j + 1) = (Pl.limbs M).drop (j + 1) := by
        have := HD.out
        rw [show p - i = j + 1 by omega] at this
        exact this
      have HD1 := Lib.hid hd1
      clear hd1
      have hjp : j < p := by omega
      obtain ⟨ad1, hA1, hadb1, hcell1⟩ := HL1.out.at_ (k := j) hjp
      obtain ⟨ad2, hA2, hadb2, hcell2⟩ := HL2.out.at_ (k := j) hjp
      subst hA1 hA2
      have hx := (Pl.fit_limbs N).get j
      have hy := (Pl.fit_limbs M).get j
      obtain ⟨x, hxe⟩ : ∃ x, (Pl.limbs N).getD j 0 = x := ⟨_, rfl⟩
      obtain ⟨y, hye⟩ : ∃ y, (Pl.limbs M).getD j 0 = y := ⟨_, rfl⟩
      rw [hxe] at hcell1 hx
      rw [hye] at hcell2 hy
      unfold Pl.B32 at hx hy
      have HX := Lib.hid hxe
      have HY := Lib.hid hye
      clear hxe hye
      have k1 : (p : Int) - 1 - (i : Int) = (j : Int) := by omega
      have HJ := Lib.hid hj
      clear hj
      have hj0 : (0 : Int) ≤ (j : Int) := by omega
      have hjpi : (j : Int) < (p : Int) := by omega
      rcases Nat.lt_trichotomy x y with g | g | g
      · have HR := Lib.hid (cmp_lt' (a := N) (b := M) (by
          have := Pl.cmp_top HP.out HQ.out (Pl.fit_limbs N) hjp HD1.out HX.out HY.out g
          rwa [Pl.val_limbs, Pl.val_limbs] at this))
        go_wp2
        go_quiet (fail)
        go_wp2
        go_ret
        exact ⟨retI HR.out.symm, below_drewN (below_drewN (Below.refl _ _) m) _⟩
      · subst g
        have hn1 : ¬ x < x := by omega
        go_wp2
        go_quiet (fail)
        go_wp2
        go_quiet (fail)
        go_wp2
        go_roundw
        case rel => exact ⟨i + 1, _, by go_num, by omega, by rw [show p - (i + 1) = j by have := HJ.out; omega]; exact Pl.drop_eq HP.out HQ.out hjp HD1.out HX.out HY.out, rfl⟩
        case measure => simp [intOf]; omega
      · have HR := Lib.hid (cmp_gt' (a := N) (b := M) (by
          have := Pl.cmp_top HQ.out HP.out (Pl.fit_limbs M) hjp HD1.out.symm HY.out HX.out g
          rwa [Pl.val_limbs, Pl.val_limbs] at this))
        have hn1 : ¬ x < y := by omega
        go_wp2
        go_quiet (fail)
        go_wp2
        go_quiet (fail)
        go_wp2
        go_ret
        exact ⟨retI HR.out.symm, below_drewN (below_drewN (below_drewN (Below.refl _ _) m) _) _⟩
    · obtain rfl : i = p := by omega
      have hNM : N = M := by
        have := HD.out
        rw [Nat.sub_self, List.drop_zero, List.drop_zero] at this
        rw [← Pl.val_limbs N, this, Pl.val_limbs]
      have HR := Lib.hid (cmp_eq' hNM)
      clear hNM
      go_wp2
      go_ret
      exact ⟨retI HR.out.symm, below_drewN (Below.refl _ _) m⟩
theorem ncmp_v {w : World} {a b : Value} {N M d : Nat} (ha : SliceV w a N d) (hb : SliceV w b M d) (hd : d ≤ 1048576) :
    Calls Try.prog 54 #[a, b] w fun e w' => e = .returned (.int .i64 (cmpI N M)) ∧ Below w.heap.size w w' := by
  by_cases h : (Pl.limbs N).length = (Pl.limbs M).length
  · exact ncmp_same ha hb hd h
  · exact ncmp_len ha hb h
end Go.Proofs.Ytmjaoeafompclaa

namespace Go.Proofs.Ytmjaoeafompclaa
open Go.RowKit Go.Shelf

/-- Behind i rounds of shift. -/
structure ShiftAt (l : List Nat) (s m i : Nat) (o : List Nat) (c : Nat) : Prop where
  len : o.length = m
  fit : Pl.Fit o
  car : c < 2 ^ s
  val : Pl.val (o.take i) + Pl.B32 ^ i * c = Pl.val (l.take i) * 2 ^ s
theorem ShiftAt.start {l o : List Nat} {s m : Nat} (ho : o.length = m) (hf : Pl.Fit o) : ShiftAt l s m 0 o 0 := ⟨ho, hf, Nat.two_pow_pos _, by simp [Pl.val]⟩
theorem take_set (o : List Nat) (i x : Nat) : (o.set i x).take i = o.take i := by
  apply List.ext_getElem?
  intro j
  by_cases h : j < i
  · rw [List.getElem?_take_of_lt h, List.getElem?_take_of_lt h, List.getElem?_set_ne (by omega)]
  · rw [List.getElem?_eq_none (by rw [List.length_take]; omega), List.getElem?_eq_none (by rw [List.length_take]; omega)]
theorem getD_set (o : List Nat) (i x : Nat) (h : i < o.length) : (o.set i x).getD i 0 = x := by
  rw [List.getD_eq_getElem?_getD, List.getElem?_set_self h]; rfl
theorem ShiftAt.step {l o : List Nat} {s m i c x : Nat} (h : ShiftAt l s m i o c) (hx : l.getD i 0 = x) (hi : i < m) (x1 : x < 4294967296) :
    ShiftAt l s m (i + 1) (o.set i ((c + x * 2 ^ s) % 4294967296)) ((c + x * 2 ^ s) / 4294967296) := by
  obtain ⟨ho, hf, hc, hv⟩ := h
  refine ⟨by simp [ho], hf.set i (Nat.mod_lt _ Pl.B32_pos), ?_, ?_⟩
  · have h1 := Nat.mul_le_mul_right (2 ^ s) (show x + 1 ≤ 4294967296 by omega)
    rw [Nat.add_mul, Nat.one_mul] at h1
    rw [Nat.div_lt_iff_lt_mul (by decide)]
    omega
  · rw [Pl.take_getD, Pl.take_getD, take_set, getD_set _ _ _ (by omega), hx, Nat.pow_succ]
    have e := Nat.mod_add_div (c + x * 2 ^ s) 4294967296
    have eB : Pl.B32 = 4294967296 := rfl
    rw [eB] at hv ⊢
    generalize 2 ^ s = S at *
    generalize (c + x * S) % 4294967296 = p at *
    generalize (c + x * S) / 4294967296 = q at *
    generalize 4294967296 ^ i = P at *
    grind
theorem ShiftAt.done {l o : List Nat} {s m c : Nat} (h : ShiftAt l s m m o c) (hs : s < 32) (hl : Pl.Fit l) (hm : l.length < m) : Pl.val o = Pl.val l * 2 ^ s := by
  obtain ⟨ho, hf, hc, hv⟩ := h
  rw [List.take_of_length_le (by omega), List.take_of_length_le (by omega)] at hv
  have h1 := Pl.val_lt hl
  have h2 : Pl.B32 ^ l.length * Pl.B32 ≤ Pl.B32 ^ m := by
    rw [← Nat.pow_succ]
    exact Nat.pow_le_pow_right Pl.B32_pos hm
  have h3 : 2 ^ s ≤ Pl.B32 := by
    rw [Pl.B32_eq]
    exact Nat.pow_le_pow_right (by decide) (by omega)
  have h4 : Pl.val l * 2 ^ s < Pl.B32 ^ m := by
    have a1 := (Nat.mul_lt_mul_right (Nat.two_pow_pos s)).2 h1
    have a2 := Nat.mul_le_mul_left (Pl.B32 ^ l.length) h3
    omega
  rcases Nat.eq_zero_or_pos c with g | g
  · rw [g, Nat.mul_zero] at hv; omega
  · have := Nat.mul_le_mul_left (Pl.B32 ^ m) g
    omega
theorem shl_or (c x s : Nat) (hs : s < 32) (hc : c < 2 ^ s) (hx : x < 4294967296) : bits .or .u64 (c : Int) ((x : Int) * 2 ^ s) = ((c + x * 2 ^ s : Nat) : Int) := by
  have hp : (2 : Nat) ^ s < 2 ^ 32 := Nat.pow_lt_pow_right (by omega) hs
  have hp3 : ((2 ^ s : Nat) : Int) = (2 : Int) ^ s := by simp
  have hxs : x * 2 ^ s ≤ 4294967295 * 4294967296 := Nat.mul_le_mul (by omega) (by omega)
  have he : (x : Int) * 2 ^ s = ((x * 2 ^ s : Nat) : Int) := by rw [← hp3]; simp
  have hm : ((x * 2 ^ s : Nat) : Int) % (2 : Int) ^ s = 0 := by rw [← hp3, ← Int.natCast_emod, Nat.mul_mod_left]; rfl
  rw [he, bits_or_comm, or_join _ (c : Int) s (by omega) hm (by omega) (by omega) (by rw [← hp3]; omega) (by omega)]
  omega

/-- Nothing but block g has changed. -/
structure Only (g : Nat) (w w' : World) : Prop where
  size : w'.heap.size = w.heap.size
  cell : ∀ p : Addr, p.block ≠ g → w'.cell? p = w.cell? p
  below : ∀ B, B ≤ g → Below B w w'
theorem Only.refl (g : Nat) (w : World) : Only g w w := ⟨rfl, fun _ _ => rfl, fun _ _ => Below.refl _ _⟩
theorem Only.set {g : Nat} {w w' : World} (h : Only g w w') (j : Nat) (v : Value) : Only g w (w'.setCell ⟨g, j, none⟩ v) :=
  ⟨by simpa using h.size, fun p hp => (World.cell?_setCell_other _ _ _ _ (fun e => hp (by rw [← e]))).trans (h.cell p hp), fun B hB => (h.below B hB).setCell hB _⟩
theorem Only.drewN {g : Nat} {w w' : World} (h : Only g w w') (n : Nat) : Only g w (w'.drewN n) := ⟨h.size, h.cell, fun B hB => below_drewN (h.below B hB) n⟩
theorem Lim.only {g : Nat} {w w' : World} {A : Option Addr} {n : Nat} {l : List Nat} (h : Lim w A n l) (hA : ∀ ad, A = some ad → ad.block ≠ g) (ho : Only g w w') : Lim w' A n l :=
  ⟨h.len, h.fit, h.reads.1, fun h0 => by
    obtain ⟨ad, hd, hb, hc⟩ := h.reads.2 h0
    exact ⟨ad, hd, by rw [ho.size]; exact hb, fun j u hu => (ho.cell _ (by rw [block_of_add]; exact hA ad hd)).trans (hc j u hu)⟩⟩

set_option maxRecDepth 100000 in
set_option maxHeartbeats 4000000 in
theorem shift_any (g q m cc : Nat) (z o : List Nat) (A : Option Addr) (n c s : Nat) (l : List Nat) (w : World) (hb : Blk w g (z ++ o)) (hz : z.length = q) (ho : o.length = m) (hf : Pl.Fit o) (hmc : m ≤ cc) (hcm : cc ≤ 1000000)
    (hl : Lim w A n l) (hA : ∀ ad, A = some ad → ad.block ≠ g) (hs : s < 32) (hnm : n < m) :
    Calls Try.prog 101 #[.slice (some ⟨g, q, none⟩) m cc, .slice A n c, .int .i64 s] w fun e w' => e = .returned (.tuple #[]) ∧ ∃ o', o'.length = m ∧ Pl.Fit o' ∧ Pl.val o' = Pl.val l * 2 ^ s ∧ Blk w' g (z ++ o') ∧ Only g w w' := by
  have HZ := Lib.hid hz
  have S0 := Lib.hid (ShiftAt.start (l := l) (s := s) ho hf)
  have BK := Lib.hid hb
  have HL := Lib.hid hl
  have HAA := Lib.hid hA
  have hlen := Lib.hid hl.len
  have hfit := Lib.hid hl.fit
  clear hz hb hl hA ho hf
  obtain ⟨P, hP⟩ : ∃ P, 2 ^ s = P := ⟨_, rfl⟩
  have hPi : (2 : Int) ^ s = (P : Int) := by rw [← hP]; simp
  have HP := Lib.hid hP
  have HPI := Lib.hid hPi
  have hPb : P ≤ 2147483648 := by
    rw [← hP]
    exact Nat.le_trans (Nat.pow_le_pow_right (by decide) (show s ≤ 31 by omega)) (by decide)
  clear hP hPi
  go_enter Try.func101, Try.ntmps101
  go_wp2
  go_loopw [6, 7, 10] (fun cv _ iv wr => ∃ (i cy : Nat) (o : List Nat), iv = .int .i64 i ∧ cv = .int .u64 cy ∧ i ≤ m ∧ ShiftAt l s m i o cy ∧ Blk wr g (z ++ o) ∧ Only g w wr) (fun _ _ iv _ => m - (intOf iv).toNat)
  case atStart => exact ⟨0, 0, o, rfl, rfl, Nat.zero_le _, S0.out, BK.out, Only.refl _ _⟩
  case round =>
    obtain ⟨i, cy, o2, rfl, rfl, hi, hat, hbk, hon⟩ := hrel
    have HS := Lib.hid hat
    have HK := Lib.hid hbk
    have HO := Lib.hid hon
    have hcy : cy < P := by rw [← HP.out]; exact hat.car
    clear hat hbk hon BK S0
    by_cases hlt : i < m
    · have hol := HS.out.len
      have hi2 : q + i < (z ++ o2).length := by rw [List.length_append, HZ.out, hol]; omega
      have hcell := HK.out.cell hi2
      have hfz := HK.out.free (q + i)
      have hset : ∀ v, (z ++ o2).set (q + i) v = z ++ o2.set i v := by
        intro v
        rw [List.set_append_right _ _ (by rw [HZ.out]; omega), HZ.out, Nat.add_sub_cancel_left]
      have HSET := Lib.hid hset
      clear hset hi2 hol
      obtain ⟨y, hy⟩ : ∃ y, (z ++ o2).getD (q + i) 0 = y := ⟨_, rfl⟩
      rw [hy] at hcell
      clear hy
      by_cases hin : i < n
      · obtain ⟨ad, hA1, hadb, hcell1⟩ := (HL.out.only HAA.out HO.out).at_ hin
        have hne := HAA.out ad hA1
        subst hA1
        have hx := hfit.out.get i
        obtain ⟨x, hxe⟩ : ∃ x, l.getD i 0 = x := ⟨_, rfl⟩
        rw [hxe] at hcell1 hx
        unfold Pl.B32 at hx
        have hst := HS.out.step hxe hlt hx
        rw [HP.out] at hst
        have hor := shl_or cy x s hs (by rw [HP.out]; exact hcy) hx
        rw [HPI.out, HP.out] at hor
        obtain ⟨t, ht⟩ : ∃ t, x * P = t := ⟨_, rfl⟩
        have htb : t ≤ 4294967295 * 2147483648 := by rw [← ht]; exact Nat.mul_le_mul (by omega) hPb
        have hti : (x : Int) * (P : Int) = (t : Int) := by rw [← ht]; simp
        rw [ht] at hst hor
        rw [hti] at hor
        obtain ⟨u, hu⟩ : ∃ u, cy + t = u := ⟨_, rfl⟩
        rw [hu] at hst hor
        have hub : u < 18446744073709551616 := by omega
        have HST := Lib.hid hst
        have hsi : (2 : Int) ^ s = (P : Int) := HPI.out
        have hkw : IntKind.u64.wrap (t : Int) = (t : Int) := wraps_u64 _ (by omega) (by omega)
        clear hst hxe ht hu htb hne hadb
        go_wp2
        exact ⟨⟨i + 1, u / 4294967296, _, by go_num, by go_num, by omega, HST.out, by rw [← HSET.out]; exact HK.out.set (q + i) (by omega), HO.out.set _ _⟩, by simp [intOf]; omega⟩
      · have hx0 : l.getD i 0 = 0 := getD_out (by rw [hlen.out]; omega)
        have hst := HS.out.step hx0 hlt (by omega)
        rw [Nat.zero_mul, Nat.add_zero] at hst
        have HST := Lib.hid hst
        clear hst hx0
        go_wp2
        exact ⟨⟨i + 1, cy / 4294967296, _, by go_num, by go_num, by omega, HST.out, by rw [← HSET.out]; exact HK.out.set (q + i) (by omega), HO.out.set _ _⟩, by simp [intOf]; omega⟩
    · obtain rfl : i = m := by omega
      have HV := Lib.hid (HS.out.done hs hfit.out (by rw [hlen.out]; exact hnm))
      go_wp2
      go_end0
      exact ⟨rfl, o2, HS.out.len, HS.out.fit, HV.out, HK.out, HO.out⟩

theorem zeros_split (q m : Nat) : List.replicate (q + m) 0 = List.replicate q 0 ++ List.replicate m 0 := by rw [List.replicate_append_replicate]
theorem val_up (q : Nat) {o : List Nat} {V s n : Nat} (hv : Pl.val o = V * 2 ^ s) (hn : n = 32 * q + s) : Pl.val (List.replicate q 0 ++ o) = V * 2 ^ n := by
  rw [Pl.val_append, Pl.val_zeros, List.length_replicate, hv, Pl.B32_pow, hn, Nat.pow_add, Nat.zero_add]
  grind
theorem bl_lt_pow {N d : Nat} (h : N < Pl.B32 ^ d) : Pl.bl N ≤ 32 * d := Pl.bl_le_of_lt (by rw [← Pl.B32_pow]; exact h)

theorem Lim.old {w : World} {A : Option Addr} {n : Nat} {l : List Nat} (h : Lim w A n l) (h0 : 0 < n) : ∀ ad, A = some ad → ad.block < w.heap.size := fun ad hA => by
  obtain ⟨ad', h1, h2, _⟩ := h.reads.2 h0
  rw [hA] at h1
  injection h1 with h1
  rw [h1]; exact h2
theorem nshl_zero {w : World} {v : Value} {d : Nat} (n : Nat) (h : SliceV w v 0 d) (hd : d ≤ 8) (hn : n ≤ 7900) : Calls Try.prog 80 #[v, .int .i64 n] w (RetNatN 0 w) := by
  have HS := Lib.hid h
  obtain ⟨A, k, c, l, rfl, h1, h2, hl, hN, hkd⟩ := h
  have HR := Lib.hid (fun (u : World) (hb : Below w.heap.size w u) => by
    have := right_n A k c l u (hl.below hb) h1 h2
    rw [hN, show (Pl.limbs 0).length = 0 by rw [Pl.limbs_zero]; rfl] at this
    exact this)
  clear hl hN h1 h2
  have hn0 : (0 : Int) ≤ (n : Int) := by omega
  go_enter Try.func80, Try.ntmps80
  go_wp2_with fail
  (with_reducible refine (over1 (HS.out.more (by omega)) _).mono ?_)
  rintro e w1 ⟨rfl, rfl⟩
  go_wp2_with fail
  (with_reducible refine (HR.out _ ((Below.refl _ _).alloc (Nat.le_refl _) _)).mono ?_)
  rintro e w1 ⟨rfl, rfl⟩
  go_wp2
  go_ret2
  exact ⟨_, rfl, NatV.nil _, (Below.refl _ _).alloc (Nat.le_refl _) _⟩

set_option maxRecDepth 100000 in
set_option maxHeartbeats 4000000 in
theorem nshl_pos {w : World} {v : Value} {N d : Nat} (n : Nat) (h : SliceV w v N d) (hd : d ≤ 8) (hn : n ≤ 7900) (h0 : N ≠ 0) : Calls Try.prog 80 #[v, .int .i64 n] w (RetNatN (N * 2 ^ n) w) := by
  obtain ⟨i0, hi0, hz0, hz1, hz2⟩ := info_parts u32_info
  have hlt := h.lt
  have hbl := bl_lt_pow hlt
  have HS := Lib.hid h
  have CL := Lib.hid (fun (u : World) (hb : Below w.heap.size w u) => nlen_v (HS.out.below hb) (by omega))
  have CC := Lib.hid (fun (u : World) (hb : Below w.heap.size w u) => ncut_v (HS.out.below hb))
  obtain ⟨A, k, c, l, rfl, h1, h2, hl, hN, hkd⟩ := h
  have hR := fun (u : World) (hb : Below w.heap.size w u) => right_n A k c l u (hl.below hb) h1 h2
  rw [hN] at hR
  have hle := Pl.limbs_len_le hlt
  obtain ⟨p, hp⟩ : ∃ p, (Pl.limbs N).length = p := ⟨_, rfl⟩
  have hp0 : 0 < p := by
    rcases Nat.eq_zero_or_pos p with g | g
    · rw [g] at hp; exact absurd (Pl.limbs_nil (List.eq_nil_of_length_eq_zero hp)) h0
    · exact g
  rw [hp] at hR CC hle
  have HR := Lib.hid hR
  clear hl hN h1 h2 hR h0 hlt
  obtain ⟨b, hb⟩ : ∃ b, Pl.bl N = b := ⟨_, rfl⟩
  rw [hb] at CL hbl
  obtain ⟨q, hq⟩ : ∃ q : Nat, (n : Int) / 32 = q := ⟨n / 32, by omega⟩
  obtain ⟨s, hs⟩ : ∃ s : Nat, (n : Int) % 32 = s := ⟨n % 32, by omega⟩
  have HQS := Lib.hid (show n = 32 * q + s by omega)
  have hs32 : s < 32 := by omega
  have hq1 : q ≤ 300 := by omega
  have hb0 : decide ((8192 : Int) < (b : Int) + (n : Int)) = false := by simp; omega
  have hp00 : ((p : Int) == 0) = false := by simp; omega
  have HP := Lib.hid hp
  clear hb hp
  go_enter Try.func80, Try.ntmps80
  go_wp2_with fail
  (with_reducible refine (over1 (HS.out.more (by omega)) _).mono ?_)
  rintro e w1 ⟨rfl, rfl⟩
  go_wp2_with fail
  (with_reducible refine (HR.out _ ((Below.refl _ _).alloc (Nat.le_refl _) _)).mono ?_)
  rintro e w1 ⟨rfl, rfl⟩
  go_wp2_with fail
  (with_reducible refine (CL.out _ ((Below.refl _ _).alloc (Nat.le_refl _) _)).mono ?_)
  rintro e w1 ⟨rfl, rfl⟩
  go_wp2_with fail
  (with_reducible refine (CC.out _ ((Below.refl _ _).alloc (Nat.le_refl _) _)).mono ?_)
  rintro e w1 ⟨A1, c1, rfl, h1, h2, hl1, rfl⟩
  have HL1 := Lib.hid hl1
  clear hl1
  generalize hw1 : w.alloc _ = w1 at HL1
  have HB1 := Lib.hid (show Below w.heap.size w w1 by rw [← hw1]; exact (Below.refl _ _).alloc (Nat.le_refl _) _)
  clear hw1
  go_wp2_with (at_make; refine wpList_make_full _ rfl _ _ _ rfl w1.heap.size 77 i0 _ 1 Try.underlying57 hi0 hz0 hz1 .i64 .i64 _ _ (q + p + 1) rfl rfl rfl rfl (by rw [hz2]; omega) (by unfold maxLen; omega) (Nat.le_refl _) ?_; intro w2 hown2 hg2; rw [made_zero] at hown2; have hB2 := (Below.refl w1.heap.size w1).grown hg2 (Nat.le_refl _) (by simp); have BK := Lib.hid (Blk.of_own hown2); have HB2 := Lib.hid hB2; clear hown2 hg2 hB2)
  have BZ := Lib.hid (show Blk w2 w1.heap.size (List.replicate q 0 ++ List.replicate (q + p + 1 - q) 0) by
    have := BK.out
    rw [show q + p + 1 = q + (q + p + 1 - q) by omega, zeros_split] at this
    exact this)
  have HAO := Lib.hid (fun (ad : Addr) (e : A1 = some ad) => Nat.ne_of_lt (HL1.out.old hp0 ad e))
  (with_reducible refine (shift_any w1.heap.size q (q + p + 1 - q) (q + p + 1 - q) (List.replicate q 0) (List.replicate (q + p + 1 - q) 0) A1 p c1 s (Pl.limbs N) w2 BZ.out (List.length_replicate ..) (List.length_replicate ..) (fit_zeros' _) (Nat.le_refl _) (by omega) (HL1.out.below HB2.out) HAO.out hs32 (by omega)).mono ?_)
  rintro e w3 ⟨rfl, o3, ho3, hf3, hv3, hbk3, hon3⟩
  rw [Pl.val_limbs] at hv3
  have hval := val_up q hv3 HQS.out
  have hsl := hbk3.slice (n := q + p + 1) (by rw [List.length_append, List.length_replicate, ho3]; omega) (by unfold maxLen; omega) ((fit_zeros' q).append hf3)
  rw [hval] at hsl
  have HC3 := Lib.hid (ncut_v hsl)
  have HB3 := Lib.hid (HB1.out.trans ((HB2.out.trans (hon3.below _ (Nat.le_refl _))).mono HB1.out.size))
  clear hv3 hval hsl hbk3 hon3 ho3 hf3
  go_wp2_with fail
  (with_reducible refine HC3.out.mono ?_)
  rintro e w4 ⟨A4, c4, rfl, h3, h4, hl4, rfl⟩
  have HL4 := Lib.hid hl4
  clear hl4
  go_wp2
  go_ret2
  exact ⟨_, rfl, ⟨A4, _, c4, rfl, h3, h4, HL4.out⟩, HB3.out⟩
theorem nshl_v {w : World} {v : Value} {N d : Nat} (n : Nat) (h : SliceV w v N d) (hd : d ≤ 8) (hn : n ≤ 7900) : Calls Try.prog 80 #[v, .int .i64 n] w (RetNatN (N * 2 ^ n) w) := by
  by_cases h0 : N = 0
  · subst h0
    rw [Nat.zero_mul]
    exact nshl_zero n h hd hn
  · exact nshl_pos n h hd hn h0
end Go.Proofs.Ytmjaoeafompclaa

namespace Go.Proofs.Ytmjaoeafompclaa
open Go.RowKit Go.Shelf

theorem and32 (a b : Nat) (ha : a < 4294967296) (hb : b < 4294967296) : bits .and .u32 (a : Int) (b : Int) = ((a &&& b : Nat) : Int) := (bits_nat .u32 32 (by decide) wraps_u32 a b ha hb).1
theorem or32 (a b : Nat) (ha : a < 4294967296) (hb : b < 4294967296) : bits .or .u32 (a : Int) (b : Int) = ((a ||| b : Nat) : Int) := (bits_nat .u32 32 (by decide) wraps_u32 a b ha hb).2
theorem xor32 (a b : Nat) (ha : a < 4294967296) (hb : b < 4294967296) : bits .xor .u32 (a : Int) (b : Int) = ((a ^^^ b : Nat) : Int) := by
  have e : (2 : Nat) ^ IntKind.u32.bits = 4294967296 := by decide
  have h := Nat.xor_lt_two_pow (x := a) (y := b) (n := 32) (by omega) (by omega)
  simp only [bits, BitVec.ofInt_natCast, BitVec.toNat_xor, BitVec.toNat_ofNat, e, Nat.mod_eq_of_lt ha, Nat.mod_eq_of_lt hb]
  exact wraps_u32 _ (by omega) (by omega)
theorem top32 {a : Nat} (ha : a < 4294967296) : a.testBit 31 = decide (2147483648 ≤ a) := by
  rw [Nat.testBit_eq_decide_div_mod_eq]
  congr 1
  rw [eq_iff_iff]
  omega
theorem top_div {a : Nat} (ha : a < 4294967296) : a / 2147483648 = if a.testBit 31 = true then 1 else 0 := by
  rw [top32 ha]
  by_cases h : 2147483648 ≤ a
  · rw [if_pos (by simpa using h)]; omega
  · rw [if_neg (by simpa using h)]; omega
def subBit (x y d : Int) : Int := bits .or .u32 (bits .and .u32 (bits .xor .u32 IntKind.u32.max x) y) (bits .and .u32 (bits .xor .u32 IntKind.u32.max (bits .xor .u32 x y)) d) / 2147483648
theorem sub_bit {x y c : Nat} (hx : x < 4294967296) (hy : y < 4294967296) (hc : c ≤ 1) : subBit x y (((x : Int) - y - c) % 4294967296) = ((if x < y + c then 1 else 0 : Nat) : Int) := by
  obtain ⟨d, hd⟩ : ∃ d : Nat, ((x : Int) - y - c) % 4294967296 = d := ⟨(((x : Int) - y - c) % 4294967296).toNat, by omega⟩
  have hd1 : d < 4294967296 := by omega
  unfold subBit
  rw [hd]
  have m : IntKind.u32.max = ((4294967295 : Nat) : Int) := by decide
  have b1 := Nat.xor_lt_two_pow (x := 4294967295) (y := x) (n := 32) (by omega) (by omega)
  have b2 := Nat.xor_lt_two_pow (x := x) (y := y) (n := 32) (by omega) (by omega)
  have b3 := Nat.xor_lt_two_pow (x := 4294967295) (y := x ^^^ y) (n := 32) (by omega) (by omega)
  have b4 := Nat.and_lt_two_pow (x := 4294967295 ^^^ x) (y := y) (n := 32) (by omega)
  have b5 := Nat.and_lt_two_pow (x := 4294967295 ^^^ (x ^^^ y)) (y := d) (n := 32) (by omega)
  have b6 := Nat.or_lt_two_pow b4 b5
  rw [m, xor32 _ _ (by omega) hx, xor32 _ _ hx hy, xor32 _ _ (by omega) (by omega), and32 _ _ (by omega) hy, and32 _ _ (by omega) hd1, or32 _ _ (by omega) (by omega)]
  have e := top_div (a := ((4294967295 ^^^ x) &&& y) ||| ((4294967295 ^^^ (x ^^^ y)) &&& d)) (by omega)
  have t1 : Nat.testBit 4294967295 31 = true := by decide
  have t2 := top32 hx
  have t3 := top32 hy
  have t4 := top32 hd1
  rw [Nat.testBit_or, Nat.testBit_and, Nat.testBit_and, Nat.testBit_xor, Nat.testBit_xor, Nat.testBit_xor, t1, t2, t3, t4] at e
  have e2 : ((((4294967295 ^^^ x) &&& y) ||| ((4294967295 ^^^ (x ^^^ y)) &&& d) : Nat) : Int) / 2147483648 = ((((4294967295 ^^^ x) &&& y) ||| ((4294967295 ^^^ (x ^^^ y)) &&& d)) / 2147483648 : Nat) := by omega
  rw [e2, e]
  congr 1
  by_cases h1 : 2147483648 ≤ x <;> by_cases h2 : 2147483648 ≤ y <;> by_cases h3 : 2147483648 ≤ d <;> by_cases h4 : x < y + c <;> simp [h1, h2, h3, h4] <;> omega

theorem retT {k j : IntKind} {a b c d : Int} (h1 : a = c) (h2 : b = d) : Ending.returned (.tuple #[.int k a, .int j b]) = .returned (.tuple #[.int k c, .int j d]) := by rw [h1, h2]
theorem add32_any (x y c : Nat) (w : World) (hx : x < 4294967296) (hy : y < 4294967296) (hc : c ≤ 1) : Calls Try.prog 83 #[.int .u32 x, .int .u32 y, .int .u32 c] w fun e w' => e = .returned (.tuple #[.int .u32 ((x + y + c) % 4294967296 : Nat), .int .u32 ((x + y + c) / 4294967296 : Nat)]) ∧ w = w' := by
  go_enter Try.func83, Try.ntmps83
  go_wp2
  go_ret2
  exact ⟨retT (by omega) (by omega), rfl⟩
theorem sub32_any (x y c : Nat) (w : World) (hx : x < 4294967296) (hy : y < 4294967296) (hc : c ≤ 1) : Calls Try.prog 86 #[.int .u32 x, .int .u32 y, .int .u32 c] w fun e w' => e = .returned (.tuple #[.int .u32 ((x + 4294967296 - (y + c)) % 4294967296 : Nat), .int .u32 (if x < y + c then 1 else 0 : Nat)]) ∧ w = w' := by
  have hb := Lib.hid (sub_bit hx hy hc)
  obtain ⟨D, hD⟩ : ∃ D : Nat, (x + 4294967296 - (y + c)) % 4294967296 = D := ⟨_, rfl⟩
  obtain ⟨B, hB⟩ : ∃ B : Nat, (if x < y + c then 1 else 0) = B := ⟨_, rfl⟩
  rw [hD, hB]
  rw [hB] at hb
  have HD := Lib.hid (show ((x : Int) - y - c) % 4294967296 = D by omega)
  clear hD hB
  go_enter Try.func86, Try.ntmps86
  go_wp2
  go_ret2
  exact ⟨retT HD.out hb.out, rfl⟩
end Go.Proofs.Ytmjaoeafompclaa

namespace Go.Proofs.Ytmjaoeafompclaa
open Go.RowKit Go.Shelf

theorem add32_any_0 (x c : Nat) (w : World) (hx : x < 4294967296) (hc : c ≤ 1) : Calls Try.prog 83 #[.int .u32 x, .int .u32 0, .int .u32 c] w fun e w' => e = .returned (.tuple #[.int .u32 ((x + 0 + c) % 4294967296 : Nat), .int .u32 ((x + 0 + c) / 4294967296 : Nat)]) ∧ w = w' := add32_any x 0 c w hx (by omega) hc
theorem sub32_any_0 (x c : Nat) (w : World) (hx : x < 4294967296) (hc : c ≤ 1) : Calls Try.prog 86 #[.int .u32 x, .int .u32 0, .int .u32 c] w fun e w' => e = .returned (.tuple #[.int .u32 ((x + 4294967296 - (0 + c)) % 4294967296 : Nat), .int .u32 (if x < 0 + c then 1 else 0 : Nat)]) ∧ w = w' := sub32_any x 0 c w hx (by omega) hc
/-- Behind i rounds of Add. -/
structure AddAt (a b : List Nat) (m i : Nat) (o : List Nat) (c : Nat) : Prop where
  len : o.length = m
  fit : Pl.Fit o
  le : c ≤ 1
  val : Pl.val (o.take i) + Pl.B32 ^ i * c = Pl.val (a.take i) + Pl.val (b.take i)
theorem AddAt.start {a b o : List Nat} {m : Nat} (ho : o.length = m) (hf : Pl.Fit o) : AddAt a b m 0 o 0 := ⟨ho, hf, by omega, by simp [Pl.val]⟩
theorem AddAt.step {a b o : List Nat} {m i c x y : Nat} (h : AddAt a b m i o c) (hx : a.getD i 0 = x) (hy : b.getD i 0 = y) (hi : i < m) (x1 : x < 4294967296) (y1 : y < 4294967296) :
    AddAt a b m (i + 1) (o.set i ((x + y + c) % 4294967296)) ((x + y + c) / 4294967296) := by
  obtain ⟨ho, hf, hc, hv⟩ := h
  refine ⟨by simp [ho], hf.set i (Nat.mod_lt _ Pl.B32_pos), by omega, ?_⟩
  rw [Pl.take_getD, Pl.take_getD, Pl.take_getD, take_set, getD_set _ _ _ (by omega), hx, hy, Nat.pow_succ]
  have e := Nat.mod_add_div (x + y + c) 4294967296
  have eB : Pl.B32 = 4294967296 := rfl
  rw [eB] at hv ⊢
  generalize (x + y + c) % 4294967296 = p at *
  generalize (x + y + c) / 4294967296 = q at *
  generalize 4294967296 ^ i = P at *
  grind
theorem AddAt.done {a b o : List Nat} {p c : Nat} (h : AddAt a b (p + 1) p o c) (ha : a.length ≤ p) (hb : b.length ≤ p) : Pl.val (o.set p c) = Pl.val a + Pl.val b ∧ Pl.Fit (o.set p c) ∧ (o.set p c).length = p + 1 := by
  obtain ⟨ho, hf, hc, hv⟩ := h
  have hcB : c < Pl.B32 := Nat.lt_of_le_of_lt hc (by decide)
  refine ⟨?_, hf.set p hcB, by simp [ho]⟩
  have e : o.set p c = (o.set p c).take (p + 1) := (List.take_of_length_le (by simp [ho])).symm
  rw [e, Pl.take_getD, take_set, getD_set _ _ _ (by omega), hv, List.take_of_length_le ha, List.take_of_length_le hb]
/-- Behind i rounds of Sub. -/
structure SubAt (a b : List Nat) (m i : Nat) (o : List Nat) (c : Nat) : Prop where
  len : o.length = m
  fit : Pl.Fit o
  le : c ≤ 1
  val : Pl.val (o.take i) + Pl.val (b.take i) = Pl.val (a.take i) + Pl.B32 ^ i * c
theorem SubAt.start {a b o : List Nat} {m : Nat} (ho : o.length = m) (hf : Pl.Fit o) : SubAt a b m 0 o 0 := ⟨ho, hf, by omega, by simp [Pl.val]⟩
theorem SubAt.step {a b o : List Nat} {m i c x y : Nat} (h : SubAt a b m i o c) (hx : a.getD i 0 = x) (hy : b.getD i 0 = y) (hi : i < m) (x1 : x < 4294967296) (y1 : y < 4294967296) :
    SubAt a b m (i + 1) (o.set i ((x + 4294967296 - (y + c)) % 4294967296)) (if x < y + c then 1 else 0) := by
  obtain ⟨ho, hf, hc, hv⟩ := h
  refine ⟨by simp [ho], hf.set i (Nat.mod_lt _ Pl.B32_pos), by split <;> omega, ?_⟩
  rw [Pl.take_getD, Pl.take_getD, Pl.take_getD, take_set, getD_set _ _ _ (by omega), hx, hy, Nat.pow_succ]
  have e : (x + 4294967296 - (y + c)) % 4294967296 + y + c = x + 4294967296 * (if x < y + c then 1 else 0) := by split <;> omega
  have eB : Pl.B32 = 4294967296 := rfl
  rw [eB] at hv ⊢
  generalize (x + 4294967296 - (y + c)) % 4294967296 = p at *
  generalize (if x < y + c then 1 else 0) = q at *
  generalize 4294967296 ^ i = P at *
  grind
theorem SubAt.done {a b o : List Nat} {p c : Nat} (h : SubAt a b p p o c) (ha : a.length = p) (hb : b.length ≤ p) (hab : Pl.val b ≤ Pl.val a) : Pl.val o = Pl.val a - Pl.val b := by
  obtain ⟨ho, hf, hc, hv⟩ := h
  have h1 := Pl.val_lt hf
  rw [List.take_of_length_le (by omega), List.take_of_length_le (by omega), List.take_of_length_le (by omega)] at hv
  rw [ho] at h1
  obtain rfl | rfl : c = 0 ∨ c = 1 := by omega
  · omega
  · rw [Nat.mul_one] at hv; omega

theorem old_or {w : World} {A : Option Addr} {n : Nat} {l : List Nat} (h : Lim w A n l) : ∀ ad, A = some ad → ad.block ≠ w.heap.size ∨ n = 0 := fun ad hA => by
  rcases Nat.eq_zero_or_pos n with g | g
  · exact .inr g
  · exact .inl (Nat.ne_of_lt (h.old g ad hA))
theorem Lim.onlyX {g : Nat} {w w' : World} {A : Option Addr} {n : Nat} {l : List Nat} (h : Lim w A n l) (hA : ∀ ad, A = some ad → ad.block ≠ g ∨ n = 0) (ho : Only g w w') : Lim w' A n l :=
  ⟨h.len, h.fit, h.reads.1, fun h0 => by
    obtain ⟨ad, hd, hb, hc⟩ := h.reads.2 h0
    exact ⟨ad, hd, by rw [ho.size]; exact hb, fun j u hu => (ho.cell _ (by rw [block_of_add]; exact (hA ad hd).resolve_right (by omega))).trans (hc j u hu)⟩⟩
theorem len_mono {N M : Nat} (h : M ≤ N) : (Pl.limbs M).length ≤ (Pl.limbs N).length := Pl.limbs_len_le (Nat.lt_of_le_of_lt h (Pl.lt_of_limbs_len (Nat.le_refl _)))

set_option maxRecDepth 100000 in
set_option maxHeartbeats 4000000 in
theorem nadd_one {w : World} {a b : Value} {N M d : Nat} (ha : SliceV w a N d) (hb : SliceV w b M d) (hd : d ≤ 255) (hle : (Pl.limbs M).length ≤ (Pl.limbs N).length) : Calls Try.prog 52 #[a, b] w (RetNatN (N + M) w) := by
  obtain ⟨i0, hi0, hz0, hz1, hz2⟩ := info_parts u32_info
  have hd' : d ≤ 256 := by omega
  have HA := Lib.hid ha
  have HB := Lib.hid hb
  obtain ⟨p, hp⟩ : ∃ p, (Pl.limbs N).length = p := ⟨_, rfl⟩
  obtain ⟨q, hq⟩ : ∃ q, (Pl.limbs M).length = q := ⟨_, rfl⟩
  have CA := fun (u : World) (hu : Below w.heap.size w u) => ncut_v (ha.below hu)
  have CB := fun (u : World) (hu : Below w.heap.size w u) => ncut_v (hb.below hu)
  rw [hp, hq] at hle
  rw [hp] at CA
  rw [hq] at CB
  replace CA := Lib.hid CA
  replace CB := Lib.hid CB
  have hpd : p ≤ d := by rw [← hp]; exact Pl.limbs_len_le ha.lt
  have hqd : q ≤ d := by rw [← hq]; exact Pl.limbs_len_le hb.lt
  have L1L := Lib.hid hp
  have L2L := Lib.hid hq
  obtain ⟨A01, n01, c01, l01, rfl, hx1⟩ := ha
  obtain ⟨A02, n02, c02, l02, rfl, hx2⟩ := hb
  clear hx1 hx2 hp hq
  go_enter Try.func52, Try.ntmps52
  go_wp2_with fail
  (with_reducible refine (over2 (HA.out.more hd') (HB.out.more hd') _).mono ?_)
  rintro e w' ⟨rfl, rfl⟩
  generalize hwa : w.alloc _ = wa
  have BA := Lib.hid (show Below w.heap.size w wa by rw [← hwa]; exact (Below.refl _ _).alloc (Nat.le_refl _) _)
  clear hwa
  go_wp2_with fail
  (with_reducible refine (CA.out _ BA.out).mono ?_)
  rintro e w' ⟨A1, c1, rfl, h1, h2, hl1, rfl⟩
  have L1 := Lib.hid hl1
  clear hl1
  go_wp2_with fail
  (with_reducible refine (CB.out _ BA.out).mono ?_)
  rintro e w' ⟨A2, c2, rfl, h3, h4, hl2, rfl⟩
  have L2 := Lib.hid hl2
  clear hl2
  go_wp2_with (at_make; refine wpList_make_full _ rfl _ _ _ rfl wa.heap.size 77 i0 _ 1 Try.underlying57 hi0 hz0 hz1 .i64 .i64 _ _ (p + 1) rfl rfl rfl rfl (by rw [hz2]; omega) (by unfold maxLen; omega) (Nat.le_refl _) ?_; intro w2 hown2 hg2; rw [made_zero] at hown2; have hB2 := (Below.refl wa.heap.size wa).grown hg2 (Nat.le_refl _) (by simp); have BK := Lib.hid (Blk.of_own hown2); have HB2 := Lib.hid hB2; clear hown2 hg2 hB2)
  have L1O : Hid (∀ ad, A1 = some ad → ad.block ≠ wa.heap.size ∨ p = 0) := Lib.hid (old_or L1.out)
  have L2O : Hid (∀ ad, A2 = some ad → ad.block ≠ wa.heap.size ∨ q = 0) := Lib.hid (old_or L2.out)
  replace L1 := Lib.hid (L1.out.below HB2.out)
  replace L2 := Lib.hid (L2.out.below HB2.out)
  go_loopw [7, 8, 9, 31] (fun cv _ _ iv wr => ∃ (i cy : Nat) (o : List Nat), iv = .int .i64 i ∧ cv = .int .u32 cy ∧ i ≤ p ∧ AddAt (Pl.limbs N) (Pl.limbs M) (p + 1) i o cy ∧ Blk wr wa.heap.size o ∧ Only wa.heap.size w2 wr) (fun _ _ _ iv _ => p - (intOf iv).toNat)
  case atStart => exact ⟨0, 0, _, rfl, rfl, Nat.zero_le _, AddAt.start (List.length_replicate ..) (fit_zeros' _), BK.out, Only.refl _ _⟩
  case round =>
    obtain ⟨i, cy, o2, rfl, rfl, hi, hat, hbk, hon⟩ := hrel
    have HS := Lib.hid hat
    have HK := Lib.hid hbk
    have HO := Lib.hid hon
    clear hat hbk hon BK
    by_cases hlt : i < p
    · have hil : i < o2.length := by rw [HS.out.len]; omega
      have hcell := HK.out.cell hil
      have hfz := HK.out.free i
      obtain ⟨z, hz⟩ : ∃ z, o2.getD i 0 = z := ⟨_, rfl⟩
      rw [hz] at hcell
      clear hz hil
      by_cases hin : i < q
      · obtain ⟨ad1, hA1, hadb1, hcell1⟩ := (L1.out.onlyX L1O.out HO.out).at_ hlt
        subst hA1
        obtain ⟨ad2, hA2, hadb2, hcell2⟩ := (L2.out.onlyX L2O.out HO.out).at_ hin
        subst hA2
        have hx := (Pl.fit_limbs N).get i
        obtain ⟨x, hxe⟩ : ∃ x, (Pl.limbs N).getD i 0 = x := ⟨_, rfl⟩
        rw [hxe] at hcell1 hx
        have hy := (Pl.fit_limbs M).get i
        obtain ⟨y, hye⟩ : ∃ y, (Pl.limbs M).getD i 0 = y := ⟨_, rfl⟩
        rw [hye] at hcell2 hy
        unfold Pl.B32 at hx hy
        have hcy := HS.out.le
        have HST := Lib.hid (HS.out.step hxe hye (by omega) hx hy)
        clear hxe hye hadb1 hadb2
        go_wp2_with fail
        (with_reducible refine (add32_any x y cy _ hx hy hcy).mono ?_)
        rintro e w3 ⟨rfl, rfl⟩
        obtain ⟨D, hD⟩ : ∃ D : Nat, (x + y + cy) % 4294967296 = D := ⟨_, rfl⟩
        obtain ⟨E, hE⟩ : ∃ E : Nat, (x + y + cy) / 4294967296 = E := ⟨_, rfl⟩
        rw [hD, hE] at HST
        rw [hD, hE]
        clear hD hE
        go_wp2
        exact ⟨⟨i + 1, E, _, by go_num, by go_num, by omega, HST.out, HK.out.set i rfl, HO.out.set _ _⟩, by simp [intOf]; omega⟩
      · obtain ⟨ad1, hA1, hadb1, hcell1⟩ := (L1.out.onlyX L1O.out HO.out).at_ hlt
        subst hA1
        have hx := (Pl.fit_limbs N).get i
        obtain ⟨x, hxe⟩ : ∃ x, (Pl.limbs N).getD i 0 = x := ⟨_, rfl⟩
        rw [hxe] at hcell1 hx
        have hye : (Pl.limbs M).getD i 0 = 0 := getD_out (by rw [L2L.out]; omega)
        unfold Pl.B32 at hx
        have hcy := HS.out.le
        have HST := Lib.hid (HS.out.step hxe hye (by omega) hx (by omega))
        clear hxe hye hadb1
        go_wp2_with fail
        (with_reducible refine (add32_any_0 x  cy _ hx  hcy).mono ?_)
        rintro e w3 ⟨rfl, rfl⟩
        obtain ⟨D, hD⟩ : ∃ D : Nat, (x + 0 + cy) % 4294967296 = D := ⟨_, rfl⟩
        obtain ⟨E, hE⟩ : ∃ E : Nat, (x + 0 + cy) / 4294967296 = E := ⟨_, rfl⟩
        rw [hD, hE] at HST
        rw [hD, hE]
        clear hD hE
        go_wp2
        exact ⟨⟨i + 1, E, _, by go_num, by go_num, by omega, HST.out, HK.out.set i rfl, HO.out.set _ _⟩, by simp [intOf]; omega⟩
    · obtain rfl : i = p := by omega
      obtain ⟨e1, e2, e3⟩ := HS.out.done (by rw [L1L.out]; omega) (by rw [L2L.out]; omega)
      rw [Pl.val_limbs, Pl.val_limbs] at e1
      have hil : i < o2.length := by rw [HS.out.len]; omega
      have hcell := HK.out.cell hil
      have hfz := HK.out.free i
      obtain ⟨z, hz⟩ : ∃ z, o2.getD i 0 = z := ⟨_, rfl⟩
      rw [hz] at hcell
      have HK3 := HK.out.set i (z := (cy : Int)) (x := cy) rfl
      have hsl := HK3.slice e3 (by unfold maxLen; omega) e2
      rw [e1] at hsl
      have HC3 := Lib.hid (fits_any (hsl.more (by omega)))
      have HB3 := Lib.hid (BA.out.trans ((HB2.out.trans ((HO.out.set i (.int .u32 (cy : Int))).below _ (Nat.le_refl _))).mono BA.out.size))
      clear hz hil HK3 hsl e1 e2 e3
      go_wp2_with fail
      (with_reducible refine HC3.out.mono ?_)
      rintro e w' ⟨u, rfl, hu, rfl⟩
      have HU := Lib.hid hu
      clear hu
      go_wp2
      go_ret2
      exact ⟨_, rfl, HU.out, HB3.out⟩

set_option maxRecDepth 100000 in
set_option maxHeartbeats 4000000 in
theorem nadd_two {w : World} {a b : Value} {N M d : Nat} (ha : SliceV w a N d) (hb : SliceV w b M d) (hd : d ≤ 255) (hle : (Pl.limbs N).length < (Pl.limbs M).length) : Calls Try.prog 52 #[a, b] w (RetNatN (N + M) w) := by
  obtain ⟨i0, hi0, hz0, hz1, hz2⟩ := info_parts u32_info
  have hd' : d ≤ 256 := by omega
  have HA := Lib.hid ha
  have HB := Lib.hid hb
  obtain ⟨p, hp⟩ : ∃ p, (Pl.limbs N).length = p := ⟨_, rfl⟩
  obtain ⟨q, hq⟩ : ∃ q, (Pl.limbs M).length = q := ⟨_, rfl⟩
  have CA := fun (u : World) (hu : Below w.heap.size w u) => ncut_v (ha.below hu)
  have CB := fun (u : World) (hu : Below w.heap.size w u) => ncut_v (hb.below hu)
  rw [hp, hq] at hle
  rw [hp] at CA
  rw [hq] at CB
  replace CA := Lib.hid CA
  replace CB := Lib.hid CB
  have hpd : p ≤ d := by rw [← hp]; exact Pl.limbs_len_le ha.lt
  have hqd : q ≤ d := by rw [← hq]; exact Pl.limbs_len_le hb.lt
  have L1L := Lib.hid hp
  have L2L := Lib.hid hq
  obtain ⟨A01, n01, c01, l01, rfl, hx1⟩ := ha
  obtain ⟨A02, n02, c02, l02, rfl, hx2⟩ := hb
  clear hx1 hx2 hp hq
  go_enter Try.func52, Try.ntmps52
  go_wp2_with fail
  (with_reducible refine (over2 (HA.out.more hd') (HB.out.more hd') _).mono ?_)
  rintro e w' ⟨rfl, rfl⟩
  generalize hwa : w.alloc _ = wa
  have BA := Lib.hid (show Below w.heap.size w wa by rw [← hwa]; exact (Below.refl _ _).alloc (Nat.le_refl _) _)
  clear hwa
  go_wp2_with fail
  (with_reducible refine (CA.out _ BA.out).mono ?_)
  rintro e w' ⟨A1, c1, rfl, h1, h2, hl1, rfl⟩
  have L1 := Lib.hid hl1
  clear hl1
  go_wp2_with fail
  (with_reducible refine (CB.out _ BA.out).mono ?_)
  rintro e w' ⟨A2, c2, rfl, h3, h4, hl2, rfl⟩
  have L2 := Lib.hid hl2
  clear hl2
  go_wp2_with (at_make; refine wpList_make_full _ rfl _ _ _ rfl wa.heap.size 77 i0 _ 1 Try.underlying57 hi0 hz0 hz1 .i64 .i64 _ _ (q + 1) rfl rfl rfl rfl (by rw [hz2]; omega) (by unfold maxLen; omega) (Nat.le_refl _) ?_; intro w2 hown2 hg2; rw [made_zero] at hown2; have hB2 := (Below.refl wa.heap.size wa).grown hg2 (Nat.le_refl _) (by simp); have BK := Lib.hid (Blk.of_own hown2); have HB2 := Lib.hid hB2; clear hown2 hg2 hB2)
  have L1O : Hid (∀ ad, A1 = some ad → ad.block ≠ wa.heap.size ∨ p = 0) := Lib.hid (old_or L1.out)
  have L2O : Hid (∀ ad, A2 = some ad → ad.block ≠ wa.heap.size ∨ q = 0) := Lib.hid (old_or L2.out)
  replace L1 := Lib.hid (L1.out.below HB2.out)
  replace L2 := Lib.hid (L2.out.below HB2.out)
  go_loopw [7, 8, 9, 31] (fun cv _ _ iv wr => ∃ (i cy : Nat) (o : List Nat), iv = .int .i64 i ∧ cv = .int .u32 cy ∧ i ≤ q ∧ AddAt (Pl.limbs M) (Pl.limbs N) (q + 1) i o cy ∧ Blk wr wa.heap.size o ∧ Only wa.heap.size w2 wr) (fun _ _ _ iv _ => q - (intOf iv).toNat)
  case atStart => exact ⟨0, 0, _, rfl, rfl, Nat.zero_le _, AddAt.start (List.length_replicate ..) (fit_zeros' _), BK.out, Only.refl _ _⟩
  case round =>
    obtain ⟨i, cy, o2, rfl, rfl, hi, hat, hbk, hon⟩ := hrel
    have HS := Lib.hid hat
    have HK := Lib.hid hbk
    have HO := Lib.hid hon
    clear hat hbk hon BK
    by_cases hlt : i < q
    · have hil : i < o2.length := by rw [HS.out.len]; omega
      have hcell := HK.out.cell hil
      have hfz := HK.out.free i
      obtain ⟨z, hz⟩ : ∃ z, o2.getD i 0 = z := ⟨_, rfl⟩
      rw [hz] at hcell
      clear hz hil
      by_cases hin : i < p
      · obtain ⟨ad1, hA1, hadb1, hcell1⟩ := (L2.out.onlyX L2O.out HO.out).at_ hlt
        subst hA1
        obtain ⟨ad2, hA2, hadb2, hcell2⟩ := (L1.out.onlyX L1O.out HO.out).at_ hin
        subst hA2
        have hx := (Pl.fit_limbs M).get i
        obtain ⟨x, hxe⟩ : ∃ x, (Pl.limbs M).getD i 0 = x := ⟨_, rfl⟩
        rw [hxe] at hcell1 hx
        have hy := (Pl.fit_limbs N).get i
        obtain ⟨y, hye⟩ : ∃ y, (Pl.limbs N).getD i 0 = y := ⟨_, rfl⟩
        rw [hye] at hcell2 hy
        unfold Pl.B32 at hx hy
        have hcy := HS.out.le
        have HST := Lib.hid (HS.out.step hxe hye (by omega) hx hy)
        clear hxe hye hadb1 hadb2
        go_wp2_with fail
        (with_reducible refine (add32_any x y cy _ hx hy hcy).mono ?_)
        rintro e w3 ⟨rfl, rfl⟩
        obtain ⟨D, hD⟩ : ∃ D : Nat, (x + y + cy) % 4294967296 = D := ⟨_, rfl⟩
        obtain ⟨E, hE⟩ : ∃ E : Nat, (x + y + cy) / 4294967296 = E := ⟨_, rfl⟩
        rw [hD, hE] at HST
        rw [hD, hE]
        clear hD hE
        go_wp2
        exact ⟨⟨i + 1, E, _, by go_num, by go_num, by omega, HST.out, HK.out.set i rfl, HO.out.set _ _⟩, by simp [intOf]; omega⟩
      · obtain ⟨ad1, hA1, hadb1, hcell1⟩ := (L2.out.onlyX L2O.out HO.out).at_ hlt
        subst hA1
        have hx := (Pl.fit_limbs M).get i
        obtain ⟨x, hxe⟩ : ∃ x, (Pl.limbs M).getD i 0 = x := ⟨_, rfl⟩
        rw [hxe] at hcell1 hx
        have hye : (Pl.limbs N).getD i 0 = 0 := getD_out (by rw [L1L.out]; omega)
        unfold Pl.B32 at hx
        have hcy := HS.out.le
        have HST := Lib.hid (HS.out.step hxe hye (by omega) hx (by omega))
        clear hxe hye hadb1
        go_wp2_with fail
        (with_reducible refine (add32_any_0 x  cy _ hx  hcy).mono ?_)
        rintro e w3 ⟨rfl, rfl⟩
        obtain ⟨D, hD⟩ : ∃ D : Nat, (x + 0 + cy) % 4294967296 = D := ⟨_, rfl⟩
        obtain ⟨E, hE⟩ : ∃ E : Nat, (x + 0 + cy) / 4294967296 = E := ⟨_, rfl⟩
        rw [hD, hE] at HST
        rw [hD, hE]
        clear hD hE
        go_wp2
        exact ⟨⟨i + 1, E, _, by go_num, by go_num, by omega, HST.out, HK.out.set i rfl, HO.out.set _ _⟩, by simp [intOf]; omega⟩
    · obtain rfl : i = q := by omega
      obtain ⟨e1, e2, e3⟩ := HS.out.done (by rw [L2L.out]; omega) (by rw [L1L.out]; omega)
      rw [Pl.val_limbs, Pl.val_limbs, Nat.add_comm] at e1
      have hil : i < o2.length := by rw [HS.out.len]; omega
      have hcell := HK.out.cell hil
      have hfz := HK.out.free i
      obtain ⟨z, hz⟩ : ∃ z, o2.getD i 0 = z := ⟨_, rfl⟩
      rw [hz] at hcell
      have HK3 := HK.out.set i (z := (cy : Int)) (x := cy) rfl
      have hsl := HK3.slice e3 (by unfold maxLen; omega) e2
      rw [e1] at hsl
      have HC3 := Lib.hid (fits_any (hsl.more (by omega)))
      have HB3 := Lib.hid (BA.out.trans ((HB2.out.trans ((HO.out.set i (.int .u32 (cy : Int))).below _ (Nat.le_refl _))).mono BA.out.size))
      clear hz hil HK3 hsl e1 e2 e3
      go_wp2_with fail
      (with_reducible refine HC3.out.mono ?_)
      rintro e w' ⟨u, rfl, hu, rfl⟩
      have HU := Lib.hid hu
      clear hu
      go_wp2
      go_ret2
      exact ⟨_, rfl, HU.out, HB3.out⟩

theorem nadd_v {w : World} {a b : Value} {N M d : Nat} (ha : SliceV w a N d) (hb : SliceV w b M d) (hd : d ≤ 255) : Calls Try.prog 52 #[a, b] w (RetNatN (N + M) w) := by
  rcases Nat.lt_or_ge (Pl.limbs N).length (Pl.limbs M).length with h | h
  · exact nadd_two ha hb hd h
  · exact nadd_one ha hb hd h

set_option maxRecDepth 100000 in
set_option maxHeartbeats 4000000 in
theorem nsub_v {w : World} {a b : Value} {N M d : Nat} (ha : SliceV w a N d) (hb : SliceV w b M d) (hd : d ≤ 255) (hMN : M ≤ N) : Calls Try.prog 55 #[a, b] w (RetNatN (N - M) w) := by
  obtain ⟨i0, hi0, hz0, hz1, hz2⟩ := info_parts u32_info
  have hd' : d ≤ 256 := by omega
  have hle : (Pl.limbs M).length ≤ (Pl.limbs N).length := len_mono hMN
  have HA := Lib.hid ha
  have HB := Lib.hid hb
  obtain ⟨p, hp⟩ : ∃ p, (Pl.limbs N).length = p := ⟨_, rfl⟩
  obtain ⟨q, hq⟩ : ∃ q, (Pl.limbs M).length = q := ⟨_, rfl⟩
  have CA := fun (u : World) (hu : Below w.heap.size w u) => ncut_v (ha.below hu)
  have CB := fun (u : World) (hu : Below w.heap.size w u) => ncut_v (hb.below hu)
  rw [hp, hq] at hle
  rw [hp] at CA
  rw [hq] at CB
  replace CA := Lib.hid CA
  replace CB := Lib.hid CB
  have hpd : p ≤ d := by rw [← hp]; exact Pl.limbs_len_le ha.lt
  have hqd : q ≤ d := by rw [← hq]; exact Pl.limbs_len_le hb.lt
  have L1L := Lib.hid hp
  have L2L := Lib.hid hq
  have CC := Lib.hid (fun (u : World) (hu : Below w.heap.size w u) => ncmp_v (ha.below hu) (hb.below hu) (by omega))
  obtain ⟨C, hC⟩ : ∃ C, cmpI (N : Int) (M : Int) = C := ⟨_, rfl⟩
  have hC0 : ¬ C < 0 := by rw [← hC]; have := cmp_ge' hMN; omega
  rw [hC] at CC
  clear hC
  obtain ⟨A01, n01, c01, l01, rfl, hx1⟩ := ha
  obtain ⟨A02, n02, c02, l02, rfl, hx2⟩ := hb
  clear hx1 hx2 hp hq
  go_enter Try.func55, Try.ntmps55
  go_wp2_with fail
  (with_reducible refine (over2 (HA.out.more hd') (HB.out.more hd') _).mono ?_)
  rintro e w' ⟨rfl, rfl⟩
  generalize hwa : w.alloc _ = wa
  have BA := Lib.hid (show Below w.heap.size w wa by rw [← hwa]; exact (Below.refl _ _).alloc (Nat.le_refl _) _)
  clear hwa
  go_wp2_with fail
  (with_reducible refine (CC.out _ BA.out).mono ?_)
  rintro e wb ⟨rfl, hbb⟩
  replace BA := Lib.hid (Bel.st BA.out hbb)
  clear hbb
  go_wp2_with fail
  (with_reducible refine (CA.out _ BA.out).mono ?_)
  rintro e w' ⟨A1, c1, rfl, h1, h2, hl1, rfl⟩
  have L1 := Lib.hid hl1
  clear hl1
  go_wp2_with fail
  (with_reducible refine (CB.out _ BA.out).mono ?_)
  rintro e w' ⟨A2, c2, rfl, h3, h4, hl2, rfl⟩
  have L2 := Lib.hid hl2
  clear hl2
  go_wp2_with (at_make; refine wpList_make_full _ rfl _ _ _ rfl wb.heap.size 77 i0 _ 1 Try.underlying57 hi0 hz0 hz1 .i64 .i64 _ _ p rfl rfl rfl rfl (by rw [hz2]; omega) (by unfold maxLen; omega) (Nat.le_refl _) ?_; intro w2 hown2 hg2; rw [made_zero] at hown2; have hB2 := (Below.refl wb.heap.size wb).grown hg2 (Nat.le_refl _) (by simp); have BK := Lib.hid (Blk.of_own hown2); have HB2 := Lib.hid hB2; clear hown2 hg2 hB2)
  have L1O : Hid (∀ ad, A1 = some ad → ad.block ≠ wb.heap.size ∨ p = 0) := Lib.hid (old_or L1.out)
  have L2O : Hid (∀ ad, A2 = some ad → ad.block ≠ wb.heap.size ∨ q = 0) := Lib.hid (old_or L2.out)
  replace L1 := Lib.hid (L1.out.below HB2.out)
  replace L2 := Lib.hid (L2.out.below HB2.out)
  go_loopw [7, 8, 9, 29] (fun cv _ _ iv wr => ∃ (i cy : Nat) (o : List Nat), iv = .int .i64 i ∧ cv = .int .u32 cy ∧ i ≤ p ∧ SubAt (Pl.limbs N) (Pl.limbs M) p i o cy ∧ Blk wr wb.heap.size o ∧ Only wb.heap.size w2 wr) (fun _ _ _ iv _ => p - (intOf iv).toNat)
  case atStart => exact ⟨0, 0, _, rfl, rfl, Nat.zero_le _, SubAt.start (List.length_replicate ..) (fit_zeros' _), BK.out, Only.refl _ _⟩
  case round =>
    obtain ⟨i, cy, o2, rfl, rfl, hi, hat, hbk, hon⟩ := hrel
    have HS := Lib.hid hat
    have HK := Lib.hid hbk
    have HO := Lib.hid hon
    clear hat hbk hon BK
    by_cases hlt : i < p
    · have hil : i < o2.length := by rw [HS.out.len]; omega
      have hcell := HK.out.cell hil
      have hfz := HK.out.free i
      obtain ⟨z, hz⟩ : ∃ z, o2.getD i 0 = z := ⟨_, rfl⟩
      rw [hz] at hcell
      clear hz hil
      by_cases hin : i < q
      · obtain ⟨ad1, hA1, hadb1, hcell1⟩ := (L1.out.onlyX L1O.out HO.out).at_ hlt
        subst hA1
        obtain ⟨ad2, hA2, hadb2, hcell2⟩ := (L2.out.onlyX L2O.out HO.out).at_ hin
        subst hA2
        have hx := (Pl.fit_limbs N).get i
        obtain ⟨x, hxe⟩ : ∃ x, (Pl.limbs N).getD i 0 = x := ⟨_, rfl⟩
        rw [hxe] at hcell1 hx
        have hy := (Pl.fit_limbs M).get i
        obtain ⟨y, hye⟩ : ∃ y, (Pl.limbs M).getD i 0 = y := ⟨_, rfl⟩
        rw [hye] at hcell2 hy
        unfold Pl.B32 at hx hy
        have hcy := HS.out.le
        have HST := Lib.hid (HS.out.step hxe hye (by omega) hx hy)
        clear hxe hye hadb1 hadb2
        go_wp2_with fail
        (with_reducible refine (sub32_any x y cy _ hx hy hcy).mono ?_)
        rintro e w3 ⟨rfl, rfl⟩
        obtain ⟨D, hD⟩ : ∃ D : Nat, (x + 4294967296 - (y + cy)) % 4294967296 = D := ⟨_, rfl⟩
        obtain ⟨E, hE⟩ : ∃ E : Nat, (if x < y + cy then 1 else 0) = E := ⟨_, rfl⟩
        rw [hD, hE] at HST
        rw [hD, hE]
        clear hD hE
        go_wp2
        exact ⟨⟨i + 1, E, _, by go_num, by go_num, by omega, HST.out, HK.out.set i rfl, HO.out.set _ _⟩, by simp [intOf]; omega⟩
      · obtain ⟨ad1, hA1, hadb1, hcell1⟩ := (L1.out.onlyX L1O.out HO.out).at_ hlt
        subst hA1
        have hx := (Pl.fit_limbs N).get i
        obtain ⟨x, hxe⟩ : ∃ x, (Pl.limbs N).getD i 0 = x := ⟨_, rfl⟩
        rw [hxe] at hcell1 hx
        have hye : (Pl.limbs M).getD i 0 = 0 := getD_out (by rw [L2L.out]; omega)
        unfold Pl.B32 at hx
        have hcy := HS.out.le
        have HST := Lib.hid (HS.out.step hxe hye (by omega) hx (by omega))
        clear hxe hye hadb1
        go_wp2_with fail
        (with_reducible refine (sub32_any_0 x  cy _ hx  hcy).mono ?_)
        rintro e w3 ⟨rfl, rfl⟩
        obtain ⟨D, hD⟩ : ∃ D : Nat, (x + 4294967296 - (0 + cy)) % 4294967296 = D := ⟨_, rfl⟩
        obtain ⟨E, hE⟩ : ∃ E : Nat, (if x < 0 + cy then 1 else 0) = E := ⟨_, rfl⟩
        rw [hD, hE] at HST
        rw [hD, hE]
        clear hD hE
        go_wp2
        exact ⟨⟨i + 1, E, _, by go_num, by go_num, by omega, HST.out, HK.out.set i rfl, HO.out.set _ _⟩, by simp [intOf]; omega⟩
    · obtain rfl : i = p := by omega
      have e1 := HS.out.done L1L.out (by rw [L2L.out]; omega) (by rw [Pl.val_limbs, Pl.val_limbs]; exact hMN)
      rw [Pl.val_limbs, Pl.val_limbs] at e1
      have hsl := HK.out.slice HS.out.len (by unfold maxLen; omega) HS.out.fit
      rw [e1] at hsl
      have HC3 := Lib.hid (ncut_v hsl)
      have HB3 := Lib.hid (BA.out.trans ((HB2.out.trans (HO.out.below _ (Nat.le_refl _))).mono BA.out.size))
      clear hsl e1
      go_wp2_with fail
      (with_reducible refine HC3.out.mono ?_)
      rintro e w' ⟨A4, c4, rfl, h5, h6, hl4, rfl⟩
      have HL4 := Lib.hid hl4
      clear hl4
      go_wp2
      go_ret2
      exact ⟨_, rfl, ⟨A4, _, c4, rfl, h5, h6, HL4.out⟩, HB3.out⟩
end Go.Proofs.Ytmjaoeafompclaa
