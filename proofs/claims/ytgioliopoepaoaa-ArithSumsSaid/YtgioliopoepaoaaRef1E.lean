/-
  The reference of chapter 1: Cmp, Plus, Less.
-/
import Derived.Test.YtgioliopoepaoaaRef1D
import Derived.Test.YtgioliopoepaoaaPlainM
import Derived.Test.YtgioliopoepaoaaWide
namespace Go.Proofs.Ytgioliopoepaoaa
open Go.RowKit Go.Shelf

theorem natcast_val {N : Nat} : (N : Int) = (Pl.val (Pl.limbs N) : Nat) := by rw [Pl.val_limbs]
theorem cmp_lt' {a b : Nat} (h : a < b) : cmpI (a : Int) b = -1 := by unfold cmpI; rw [if_pos (by omega)]
theorem cmp_gt' {a b : Nat} (h : b < a) : cmpI (a : Int) b = 1 := by unfold cmpI; rw [if_neg (by omega), if_neg (by omega)]
theorem cmp_eq' {a b : Nat} (h : a = b) : cmpI (a : Int) b = 0 := by unfold cmpI; rw [if_neg (by omega), if_pos (by omega)]

set_option maxHeartbeats 2000000 in
theorem rcmp_len {w : World} {a b : Value} {N M d : Nat} (ha : SliceV w a N d) (hb : SliceV w b M d) (hd : d ≤ 1048576) (hne : (Pl.limbs N).length ≠ (Pl.limbs M).length) :
    Calls Try.prog 45 #[a, b] w fun e w' => e = .returned (.int .i64 (cmpI N M)) ∧ Below w.heap.size w w' := by
  have HA := Lib.hid ha
  have HB := Lib.hid hb
  obtain ⟨p, hp⟩ : ∃ p, (Pl.limbs N).length = p := ⟨_, rfl⟩
  obtain ⟨q, hq⟩ : ∃ q, (Pl.limbs M).length = q := ⟨_, rfl⟩
  rw [hp, hq] at hne
  have hpd : p ≤ d := by rw [← hp]; exact Pl.limbs_len_le ha.lt
  have hqd : q ≤ d := by rw [← hq]; exact Pl.limbs_len_le hb.lt
  have HP := Lib.hid hp
  have HQ := Lib.hid hq
  clear ha hb hp hq
  rcases Nat.lt_or_ge p q with g | g
  · have hn : ((p : Int) == (q : Int)) = false := by simp; omega
    have hr := Lib.hid (cmp_lt' (Pl.len_lt (N := N) (M := M) (by rw [HP.out, HQ.out]; exact g)))
    go_enter Try.func45, Try.ntmps45
    go_wp2_with fail
    (with_reducible refine (trim_v HA.out hd).mono ?_)
    rintro e w1 ⟨v1, rfl, ⟨A1, n1, c1, rfl, h1, h2, hl1⟩, hb1⟩
    obtain rfl : n1 = p := hl1.len.symm.trans HP.out
    go_wp2_with fail
    (with_reducible refine (trim_v (HB.out.below hb1) hd).mono ?_)
    rintro e w2 ⟨v2, rfl, ⟨A2, n2, c2, rfl, h3, h4, hl2⟩, hb2⟩
    obtain rfl : n2 = q := hl2.len.symm.trans HQ.out
    go_wp2
    go_ret
    exact ⟨retI hr.out.symm, hb1.trans (hb2.mono hb1.size)⟩
  · have hn : ((p : Int) == (q : Int)) = false := by simp; omega
    have hn2 : ¬ p < q := by omega
    have hr := Lib.hid (cmp_gt' (Pl.len_lt (N := M) (M := N) (by rw [HP.out, HQ.out]; omega)))
    go_enter Try.func45, Try.ntmps45
    go_wp2_with fail
    (with_reducible refine (trim_v HA.out hd).mono ?_)
    rintro e w1 ⟨v1, rfl, ⟨A1, n1, c1, rfl, h1, h2, hl1⟩, hb1⟩
    obtain rfl : n1 = p := hl1.len.symm.trans HP.out
    go_wp2_with fail
    (with_reducible refine (trim_v (HB.out.below hb1) hd).mono ?_)
    rintro e w2 ⟨v2, rfl, ⟨A2, n2, c2, rfl, h3, h4, hl2⟩, hb2⟩
    obtain rfl : n2 = q := hl2.len.symm.trans HQ.out
    go_wp2
    go_ret
    exact ⟨retI hr.out.symm, hb1.trans (hb2.mono hb1.size)⟩

set_option maxHeartbeats 4000000 in
theorem rcmp_same {w : World} {a b : Value} {N M d : Nat} (ha : SliceV w a N d) (hb : SliceV w b M d) (hd : d ≤ 1048576) (hne : (Pl.limbs N).length = (Pl.limbs M).length) :
    Calls Try.prog 45 #[a, b] w fun e w' => e = .returned (.int .i64 (cmpI N M)) ∧ Below w.heap.size w w' := by
  have HA := Lib.hid ha
  have HB := Lib.hid hb
  obtain ⟨p, hp⟩ : ∃ p, (Pl.limbs N).length = p := ⟨_, rfl⟩
  have hq := hne.symm.trans hp
  have hpd : p ≤ d := by rw [← hp]; exact Pl.limbs_len_le ha.lt
  have HP := Lib.hid hp
  have HQ := Lib.hid hq
  clear ha hb hp hq hne
  have hn : ((p : Int) == (p : Int)) = true := by simp
  go_enter Try.func45, Try.ntmps45
  go_wp2_with fail
  (with_reducible refine (trim_v HA.out hd).mono ?_)
  rintro e w1 ⟨v1, rfl, ⟨A1, n1, c1, rfl, h1, h2, hl1⟩, hb1⟩
  obtain rfl : n1 = p := hl1.len.symm.trans HP.out
  go_wp2_with fail
  (with_reducible refine (trim_v (HB.out.below hb1) hd).mono ?_)
  rintro e w2 ⟨v2, rfl, ⟨A2, n2, c2, rfl, h3, h4, hl2⟩, hb2⟩
  obtain rfl : n2 = n1 := hl2.len.symm.trans HQ.out
  have hBB := hb1.trans (hb2.mono hb1.size)
  have HL1 := Lib.hid (hl1.below hb2)
  have HL2 := Lib.hid hl2
  have HBB := Lib.hid hBB
  clear hl1 hl2 hb1 hb2 hBB
  go_wp2
  go_loopw [7] (fun iv wr => ∃ k m : Nat, iv = .int .i64 ((k : Int) - 1) ∧ k ≤ n2 ∧ (Pl.limbs N).drop k = (Pl.limbs M).drop k ∧ wr = w2.drewN m) (fun iv _ => (intOf iv + 1).toNat)
  case atStart => exact ⟨n2, 0, by go_num, Nat.le_refl _, by rw [List.drop_eq_nil_of_le (by rw [HP.out]; omega), List.drop_eq_nil_of_le (by rw [HQ.out]; omega)], rfl⟩
  case round =>
    obtain ⟨k, m, rfl, hk, hdr, rfl⟩ := hrel
    have HD := Lib.hid hdr
    clear hdr
    rcases Nat.eq_zero_or_pos k with h0 | h0
    · subst h0
      have hNM : N = M := by
        have := HD.out
        rw [List.drop_zero, List.drop_zero] at this
        rw [← Pl.val_limbs N, this, Pl.val_limbs]
      have HR := Lib.hid (cmp_eq' hNM)
      clear hNM
      go_wp2
      go_ret
      exact ⟨retI HR.out.symm, below_drewN HBB.out m⟩
    · obtain ⟨j, rfl⟩ : ∃ j, k = j + 1 := ⟨k - 1, by omega⟩
      obtain ⟨ad1, hA1, hadb1, hcell1⟩ := HL1.out.at_ (k := j) (by omega)
      obtain ⟨ad2, hA2, hadb2, hcell2⟩ := HL2.out.at_ (k := j) (by omega)
      subst hA1 hA2
      have hx := (Pl.fit_limbs N).get j
      have hy := (Pl.fit_limbs M).get j
      obtain ⟨x, hxe⟩ : ∃ x, (Pl.limbs N).getD j 0 = x := ⟨_, rfl⟩
      obtain ⟨y, hye⟩ : ∃ y, (Pl.limbs M).getD j 0 = y := ⟨_, rfl⟩
      rw [hxe] at hcell1 hx
      rw [hye] at hcell2 hy
      unfold Pl.B32 at hx hy
      have HX := Lib.hid hxe
      have HY := Lib.hid hye
      clear hxe hye
      rcases Nat.lt_trichotomy x y with g | g | g
      · have HR := Lib.hid (cmp_lt' (a := N) (b := M) (by
          have := Pl.cmp_top HP.out HQ.out (Pl.fit_limbs N) (by omega) HD.out HX.out HY.out g
          rwa [Pl.val_limbs, Pl.val_limbs] at this))
        go_wp2
        go_quiet (fail)
        go_wp2
        go_ret
        exact ⟨retI HR.out.symm, below_drewN (below_drewN HBB.out m) _⟩
      · subst g
        have hn1 : ¬ x < x := by omega
        go_wp2
        go_quiet (fail)
        go_wp2
        go_quiet (fail)
        go_wp2
        go_roundw
        case rel => exact ⟨j, _, by go_num, by omega, Pl.drop_eq HP.out HQ.out (by omega) HD.out HX.out HY.out, rfl⟩
        case measure => simp [intOf]
      · have HR := Lib.hid (cmp_gt' (a := N) (b := M) (by
          have := Pl.cmp_top HQ.out HP.out (Pl.fit_limbs M) (by omega) HD.out.symm HY.out HX.out g
          rwa [Pl.val_limbs, Pl.val_limbs] at this))
        have hn1 : ¬ x < y := by omega
        go_wp2
        go_quiet (fail)
        go_wp2
        go_quiet (fail)
        go_wp2
        go_ret
        exact ⟨retI HR.out.symm, below_drewN (below_drewN (below_drewN HBB.out m) _) _⟩
theorem rcmp_v {w : World} {a b : Value} {N M d : Nat} (ha : SliceV w a N d) (hb : SliceV w b M d) (hd : d ≤ 1048576) :
    Calls Try.prog 45 #[a, b] w fun e w' => e = .returned (.int .i64 (cmpI N M)) ∧ Below w.heap.size w w' := by
  by_cases h : (Pl.limbs N).length = (Pl.limbs M).length
  · exact rcmp_same ha hb hd h
  · exact rcmp_len ha hb hd h

theorem trim_ownF {w : World} {base : Nat} {e : TypeId} {v : Value} {k : Nat} {o : List Nat} (h : w.ownsRow base e 1 v k (o.map lv)) (hf : Pl.Fit o) (hk : k ≤ 1048576) : Calls Try.prog 56 #[v] w (RetNatF (Pl.val o) w) := by
  obtain ⟨A, c, rfl, h1, h2⟩ := own_slice h
  exact trim_fresh A k c o w (Lim.of_own h hf) h1 h2 hk
set_option maxRecDepth 100000 in
set_option maxHeartbeats 4000000 in
theorem plus_fresh {w : World} {a b : Value} {N M d : Nat} (ha : SliceV w a N d) (hb : SliceV w b M d) (hd : d ≤ 100000) : Calls Try.prog 44 #[a, b] w (RetNatF (N + M) w) := by
  obtain ⟨i0, hi0, hz0, hz1, hz2⟩ := info_parts u32_info
  obtain ⟨A1, n1, c1, l1, rfl, h1, h2, hl1, rfl, hd1⟩ := ha
  obtain ⟨A2, n2, c2, l2, rfl, h3, h4, hl2, rfl, hd2⟩ := hb
  have len1 := Lib.hid hl1.len
  have len2 := Lib.hid hl2.len
  have fit1 := Lib.hid hl1.fit
  have fit2 := Lib.hid hl2.fit
  have HL1 := Lib.hid hl1
  have HL2 := Lib.hid hl2
  clear hl1 hl2
  go_enter Try.func44, Try.ntmps44
  go_wp2
  go_loopw [5, 6, 7] (fun v cv iv wr => ∃ (k cc : Nat) (o : List Nat), iv = .int .i64 k ∧ cv = .int .u64 cc ∧ (k ≤ n1 ∨ k ≤ n2) ∧ Pl.PlusAt l1 l2 k o cc ∧ wr.ownsRow w.heap.size 66 1 v k (o.map lv) ∧ Below w.heap.size w wr) (fun _ _ iv _ => n1 + n2 - (intOf iv).toNat)
  case atStart => exact ⟨0, 0, [], rfl, rfl, .inl (Nat.zero_le _), Pl.PlusAt.start _ _, ⟨by simp, .inl ⟨rfl, rfl⟩⟩, Below.refl _ _⟩
  case round =>
    obtain ⟨k, cc, o, rfl, rfl, hk, hat, hown, hB⟩ := hrel
    have hcc := hat.le
    have hBs := hB.size
    have HA := Lib.hid hat
    have HB := Lib.hid hB
    clear hat hB
    by_cases hlt : k < n1 ∨ k < n2
    · have L1 := Lib.hid (HL1.out.below HB.out)
      have L2 := Lib.hid (HL2.out.below HB.out)
      have hx := fit1.out.get k
      have hy := fit2.out.get k
      obtain ⟨x, hxe⟩ : ∃ x, l1.getD k 0 = x := ⟨_, rfl⟩
      obtain ⟨y, hye⟩ : ∃ y, l2.getD k 0 = y := ⟨_, rfl⟩
      rw [hxe] at hx
      rw [hye] at hy
      unfold Pl.B32 at hx hy
      have HX := Lib.hid hxe
      have HY := Lib.hid hye
      clear hxe hye
      have HS := Lib.hid (HA.out.step HX.out HY.out hx hy)
      by_cases hlt1 : k < n1
      all_goals try have hlt2 : k < n2 := by omega
      all_goals
        go_wp2_with fail
        (with_reducible refine (limb_any A1 n1 c1 k l1 _ L1.out (by omega)).mono ?_)
        rw [HX.out]
        rintro e w3 ⟨rfl, rfl⟩
        go_wp2_with fail
        (with_reducible refine (limb_any A2 n2 c2 k l2 _ L2.out (by omega)).mono ?_)
        rw [HY.out]
        rintro e w3 ⟨rfl, rfl⟩
        go_wp2_with (at_builtin; refine wpList_append_any _ rfl (.tmp 30) (.tmp 34) _ rfl w.heap.size 66 i0 _ 1 4 Try.underlying35 hi0 hz0 hz1 hz2 rfl (by omega) _ k (o.map lv) rfl (hown.alloc _) (wr.heap.size + 1) (some ⟨wr.heap.size, 0, none⟩) 1 1 [lv ((x + y + cc) % 4294967296)] rfl (reads_new' (by omega)) (by simp [lv, Value.oneCell']) (by unfold maxLen; omega) (by omega) (by simp; omega) ?_; intro v1 w1 hown1 hg1 hat1)
        exact ⟨⟨k + 1, _, _, by go_num, by go_num, by omega, HS.out, own_snoc hown1, below_row HB.out hBs hg1 rfl (own_base hown)⟩, by simp [intOf]; omega⟩
    · obtain ⟨d1, d2, d3⟩ := HA.out.done (show l1.length ≤ k by have := len1.out; omega) (show l2.length ≤ k by have := len2.out; omega)
      have D1 := Lib.hid d1
      have hq1 : ¬ k < n1 := by omega
      have hq2 : ¬ k < n2 := by omega
      clear d1 d3 hlt
      go_wp2_with (first | (at_builtin; refine wpList_append_any _ rfl (.tmp 38) (.tmp 41) _ rfl w.heap.size 66 i0 _ 1 4 Try.underlying35 hi0 hz0 hz1 hz2 rfl (by omega) _ k (o.map lv) rfl (hown.alloc _) (wr.heap.size + 1) (some ⟨wr.heap.size, 0, none⟩) 1 1 [lv cc] rfl (reads_new' (by omega)) (by simp [lv, Value.oneCell']) (by unfold maxLen; omega) (by omega) (by simp; omega) ?_; intro v1 w1 hown1 hg1 hat1; have hB1 := below_row HB.out hBs hg1 rfl (own_base hown)) | (go_at_call 56; refine (trim_ownF (own_snoc hown1) d2 (by omega)).mono ?_; rw [D1.out]; rintro e w2 ⟨v2, rfl, hv2, hb2, hf2⟩))
      go_ret
      exact ⟨v2, rfl, hv2, hB1.trans (hb2.mono hB1.size), hf2.mono hB1.size⟩

theorem plus_v {w : World} {a b : Value} {N M d : Nat} (ha : SliceV w a N d) (hb : SliceV w b M d) (hd : d ≤ 100000) : Calls Try.prog 44 #[a, b] w (RetNat (N + M) w) :=
  (plus_fresh ha hb hd).mono fun _ _ ⟨v, he, hv, hb, _⟩ => ⟨v, he, hv, hb⟩

set_option maxRecDepth 100000 in
set_option maxHeartbeats 4000000 in
theorem less_fresh {w : World} {a b : Value} {N M d : Nat} (ha : SliceV w a N d) (hb : SliceV w b M d) (hd : d ≤ 100000) (hMN : M ≤ N) : Calls Try.prog 46 #[a, b] w (RetNatF (N - M) w) := by
  obtain ⟨i0, hi0, hz0, hz1, hz2⟩ := info_parts u32_info
  obtain ⟨A1, n1, c1, l1, rfl, h1, h2, hl1, rfl, hd1⟩ := ha
  obtain ⟨A2, n2, c2, l2, rfl, h3, h4, hl2, rfl, hd2⟩ := hb
  have len1 := Lib.hid hl1.len
  have fit1 := Lib.hid hl1.fit
  have fit2 := Lib.hid hl2.fit
  have HL1 := Lib.hid hl1
  have HL2 := Lib.hid hl2
  have HMN := Lib.hid hMN
  clear hl1 hl2 hMN
  go_enter Try.func46, Try.ntmps46
  go_wp2
  go_loopw [5, 6, 7] (fun v cv iv wr => ∃ (k cc : Nat) (o : List Nat), iv = .int .i64 k ∧ cv = .int .u64 cc ∧ k ≤ n1 ∧ Pl.LessAt l1 l2 k o cc ∧ wr.ownsRow w.heap.size 66 1 v k (o.map lv) ∧ Below w.heap.size w wr) (fun _ _ iv _ => n1 - (intOf iv).toNat)
  case atStart => exact ⟨0, 0, [], rfl, rfl, Nat.zero_le _, Pl.LessAt.start _ _, ⟨by simp, .inl ⟨rfl, rfl⟩⟩, Below.refl _ _⟩
  case round =>
    obtain ⟨k, cc, o, rfl, rfl, hk, hat, hown, hB⟩ := hrel
    have hcc := hat.le
    have hBs := hB.size
    have HA := Lib.hid hat
    have HB := Lib.hid hB
    clear hat hB
    by_cases hlt : k < n1
    · have L1 := Lib.hid (HL1.out.below HB.out)
      have L2 := Lib.hid (HL2.out.below HB.out)
      have hx := fit1.out.get k
      have hy := fit2.out.get k
      obtain ⟨x, hxe⟩ : ∃ x, l1.getD k 0 = x := ⟨_, rfl⟩
      obtain ⟨y, hye⟩ : ∃ y, l2.getD k 0 = y := ⟨_, rfl⟩
      rw [hxe] at hx
      rw [hye] at hy
      unfold Pl.B32 at hx hy
      have HX := Lib.hid hxe
      have HY := Lib.hid hye
      clear hxe hye
      by_cases hxy : x < y + cc
      · have HS := Lib.hid (HA.out.yes HX.out HY.out hx hy hxy)
        have hxy' : (x : Int) < (y : Int) + (cc : Int) := by omega
        go_wp2_with fail
        (with_reducible refine (limb_any A1 n1 c1 k l1 _ L1.out (by omega)).mono ?_)
        rw [HX.out]
        rintro e w3 ⟨rfl, rfl⟩
        go_wp2_with fail
        (with_reducible refine (limb_any A2 n2 c2 k l2 _ L2.out (by omega)).mono ?_)
        rw [HY.out]
        rintro e w3 ⟨rfl, rfl⟩
        go_wp2_with (at_builtin; refine wpList_append_any _ rfl (.tmp 29) (.tmp 34) _ rfl w.heap.size 66 i0 _ 1 4 Try.underlying35 hi0 hz0 hz1 hz2 rfl (by omega) _ k (o.map lv) rfl (hown.alloc _) (wr.heap.size + 1) (some ⟨wr.heap.size, 0, none⟩) 1 1 [lv (x + 4294967296 - (y + cc))] rfl (reads_new' (by omega)) (by simp [lv, Value.oneCell']) (by unfold maxLen; omega) (by omega) (by simp; omega) ?_; intro v1 w1 hown1 hg1 hat1)
        exact ⟨⟨k + 1, 1, _, by go_num, rfl, by omega, HS.out, own_snoc hown1, below_row HB.out hBs hg1 rfl (own_base hown)⟩, by simp [intOf]; omega⟩
      · have HS := Lib.hid (HA.out.no HX.out HY.out hx hxy)
        have hxy' : ¬ (x : Int) < (y : Int) + (cc : Int) := by omega
        have hxy2 : (y : Int) + (cc : Int) ≤ (x : Int) := by omega
        clear hxy
        go_wp2_with fail
        (with_reducible refine (limb_any A1 n1 c1 k l1 _ L1.out (by omega)).mono ?_)
        rw [HX.out]
        rintro e w3 ⟨rfl, rfl⟩
        go_wp2_with fail
        (with_reducible refine (limb_any A2 n2 c2 k l2 _ L2.out (by omega)).mono ?_)
        rw [HY.out]
        rintro e w3 ⟨rfl, rfl⟩
        go_wp2_with (at_builtin; refine wpList_append_any _ rfl (.tmp 29) (.tmp 34) _ rfl w.heap.size 66 i0 _ 1 4 Try.underlying35 hi0 hz0 hz1 hz2 rfl (by omega) _ k (o.map lv) rfl (hown.alloc _) (wr.heap.size + 1) (some ⟨wr.heap.size, 0, none⟩) 1 1 [lv (x - (y + cc))] rfl (reads_new' (by omega)) (by simp [lv, Value.oneCell']) (by unfold maxLen; omega) (by omega) (by simp; omega) ?_; intro v1 w1 hown1 hg1 hat1)
        exact ⟨⟨k + 1, 0, _, by go_num, rfl, by omega, HS.out, own_snoc hown1, below_row HB.out hBs hg1 rfl (own_base hown)⟩, by simp [intOf]; omega⟩
    · have D1 := Lib.hid (HA.out.done (show k = l1.length by have := len1.out; omega) fit1.out HMN.out)
      have D2 := HA.out.fit
      go_wp2_with (go_at_call 56; refine (trim_ownF hown D2 (by omega)).mono ?_; rw [D1.out]; rintro e w2 ⟨v2, rfl, hv2, hb2, hf2⟩)
      go_ret
      exact ⟨v2, rfl, hv2, HB.out.trans (hb2.mono hBs), hf2.mono hBs⟩
theorem less_v {w : World} {a b : Value} {N M d : Nat} (ha : SliceV w a N d) (hb : SliceV w b M d) (hd : d ≤ 100000) (hMN : M ≤ N) : Calls Try.prog 46 #[a, b] w (RetNat (N - M) w) :=
  (less_fresh ha hb hd hMN).mono fun _ _ ⟨v, he, hv, hb, _⟩ => ⟨v, he, hv, hb⟩
end Go.Proofs.Ytgioliopoepaoaa
