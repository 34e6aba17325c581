/-
  The reference of chapter 1: Twice, Len.
-/
import Derived.Test.YtjlmchbpdkojeaaRef1
namespace Go.Proofs.Ytjlmchbpdkojeaa
open Go.RowKit Go.Shelf

/-- A new block of one limb, as a slice's cells. -/
theorem reads_new (w : World) (x : Int) (e : TypeId) : Reads (w.alloc (.cells #[.int .u32 x] e)) (w.heap.size + 1) 1 (some ⟨w.heap.size, 0, none⟩) 1 [.int .u32 x] := by
  refine ⟨rfl, fun _ => ⟨_, rfl, by simp, fun j u hu => ?_⟩⟩
  obtain rfl : j = 0 := by
    rcases Nat.eq_zero_or_pos j with h | h
    · exact h
    · rw [List.getElem?_eq_none (by simp; omega)] at hu; cases hu
  simp at hu
  subst hu
  simp [go_sem, Addr.add]

/-- Behind k rounds of Twice. -/
structure TwiceAt (l : List Nat) (c0 k : Nat) (o : List Nat) (c : Nat) : Prop where
  len : o.length = k
  fit : Pl.Fit o
  le : c ≤ 1
  val : Pl.val o + Pl.B32 ^ k * c = 2 * Pl.val (l.take k) + c0
theorem TwiceAt.start (l : List Nat) {c0 : Nat} (h : c0 ≤ 1) : TwiceAt l c0 0 [] c0 := ⟨rfl, Pl.Fit.nil, h, by simp [Pl.val]⟩
theorem TwiceAt.step {l : List Nat} {c0 k : Nat} {o : List Nat} {c x : Nat} (h : TwiceAt l c0 k o c) (hk : k < l.length) (hx : l.getD k 0 = x) (hf : x < 4294967296) : TwiceAt l c0 (k + 1) (o ++ [(2 * x + c) % 4294967296]) ((2 * x + c) / 4294967296) := by
  obtain ⟨hl, hfit, hc, hv⟩ := h
  refine ⟨by simp [hl], hfit.append (Pl.Fit.cons (Nat.mod_lt _ Pl.B32_pos) Pl.Fit.nil), by omega, ?_⟩
  rw [Pl.val_snoc, hl, Pl.val_take_succ l k hk, hx, Nat.pow_succ]
  have e := Nat.mod_add_div (2 * x + c) 4294967296
  have eB : Pl.B32 = 4294967296 := rfl
  rw [eB] at hv ⊢
  generalize (2 * x + c) % 4294967296 = a at *
  generalize (2 * x + c) / 4294967296 = b at *
  generalize 4294967296 ^ k = P at *
  have : P * 4294967296 * b = P * (4294967296 * b) := Nat.mul_assoc _ _ _
  rw [this, Nat.add_assoc, ← Nat.mul_add, e]
  have h2 : P * (2 * x + c) = 2 * (P * x) + P * c := by rw [Nat.mul_add, Nat.mul_left_comm]
  omega
theorem TwiceAt.done {l : List Nat} {c0 k : Nat} {o : List Nat} {c : Nat} (h : TwiceAt l c0 k o c) (hk : k = l.length) : Pl.val (o ++ [c]) = 2 * Pl.val l + c0 ∧ Pl.Fit (o ++ [c]) ∧ (o ++ [c]).length = k + 1 := by
  obtain ⟨hl, hfit, hc, hv⟩ := h
  rw [hk, List.take_length] at hv
  rw [Pl.val_snoc, hl, hk]
  exact ⟨hv, hfit.append (Pl.Fit.cons (show c < 4294967296 by omega) Pl.Fit.nil), by simp [hl, hk]⟩
def b01 (b : Bool) : Nat := if b then 1 else 0
theorem b01_le (b : Bool) : b01 b ≤ 1 := by unfold b01; split <;> omega

theorem reads_new' {w : World} {x : Int} {y : Nat} {e : TypeId} (h : x = y) : Reads (w.alloc (.cells #[.int .u32 x] e)) (w.heap.size + 1) 1 (some ⟨w.heap.size, 0, none⟩) 1 [lv y] := by
  subst h; exact reads_new w _ e
theorem below_row {B : Nat} {w0 w w1 : World} {o : Obj} {v : Value} {row : Option Nat} (hb : Below B w0 w) (hB : B ≤ w.heap.size) (hg : (w.alloc o).grownBy w1 row) (hv : row = v.ownBlock) (ho : v.ownBlock = none ∨ ∃ k, v.ownBlock = some k ∧ B ≤ k) : Below B w0 w1 :=
  (hb.alloc hB o).grown hg (by simp; omega) (fun k h => by
    subst hv
    rcases ho with g | ⟨j, g, hj⟩
    · rw [g] at h; cases h
    · rw [g] at h; injection h with h; omega)
theorem own_base {w : World} {base : Nat} {e : TypeId} {size n : Nat} {v : Value} {xs : List Value} (h : w.ownsRow base e size v n xs) : v.ownBlock = none ∨ ∃ k, v.ownBlock = some k ∧ base ≤ k := by
  rcases h.2 with ⟨rfl, rfl⟩ | ⟨g, cap, cur, rfl, hb, _⟩
  · exact .inl rfl
  · exact .inr ⟨g, rfl, hb⟩
theorem map_snoc (o : List Nat) (y : Nat) : (o ++ [y]).map lv = o.map lv ++ [lv y] := by rw [List.map_append]; rfl
theorem own_snoc {w : World} {base : Nat} {e : TypeId} {v : Value} {k : Nat} {o : List Nat} {y : Nat} (h : w.ownsRow base e 1 v (k + 1) (o.map lv ++ [lv y])) : w.ownsRow base e 1 v (k + 1) ((o ++ [y]).map lv) := by rw [map_snoc]; exact h

theorem trim_own {w : World} {base : Nat} {e : TypeId} {v : Value} {k : Nat} {o : List Nat} (h : w.ownsRow base e 1 v k (o.map lv)) (hf : Pl.Fit o) (hk : k ≤ 1048576) : Calls Try.prog 70 #[v] w (RetNat (Pl.val o) w) := by
  obtain ⟨A, c, rfl, h1, h2⟩ := own_slice h
  exact trim_any A k c o w (Lim.of_own h hf) h1 h2 hk

set_option maxHeartbeats 4000000 in
theorem twice_any (A : Option Addr) (n c : Nat) (l : List Nat) (more : Bool) (w : World) (hl : Lim w A n l) (hn : n ≤ 1048575) :
    Calls Try.prog 52 #[.slice A n c, .bool more] w (RetNat (2 * Pl.val l + b01 more) w) := by
  obtain ⟨i0, hi0, hz0, hz1, hz2⟩ := info_parts u32_info
  have hlen := Lib.hid hl.len
  have hfit := hl.fit
  have HL := Lib.hid hl
  clear hl
  have START := Lib.hid (TwiceAt.start l (b01_le more))
  cases more
  all_goals
    go_enter Try.func52, Try.ntmps52
    go_wp2
    go_loopw [5, 6, 7] (fun v cv iv wr => ∃ (k cc : Nat) (o : List Nat), iv = .int .i64 k ∧ cv = .int .u64 cc ∧ k ≤ n ∧ TwiceAt l (b01 _) k o cc ∧ wr.ownsRow w.heap.size 63 1 v k (o.map lv) ∧ Below w.heap.size w wr) (fun _ _ iv _ => n - (intOf iv).toNat)
    case atStart => exact ⟨0, _, [], rfl, rfl, Nat.zero_le _, START.out, ⟨by simp, .inl ⟨rfl, rfl⟩⟩, Below.refl _ _⟩
    case round =>
      obtain ⟨k, cc, o, rfl, rfl, hk, hat, hown, hB⟩ := hrel
      have hcc := hat.le
      have hBs := hB.size
      have HA := Lib.hid hat
      have HB := Lib.hid hB
      clear hat hB
      by_cases hlt : k < n
      · obtain ⟨ad, hA, hadb, hcell⟩ := HL.out.at_ hlt
        have hcell : wr.cell? (ad.add k) = some (.int .u32 ((l.getD k 0 : Nat) : Int)) := (HB.out.cell (by rw [block_of_add]; exact hadb)).trans hcell
        subst hA
        have hx := hfit.get k
        unfold Pl.B32 at hx
        obtain ⟨x, hxe⟩ : ∃ x, l.getD k 0 = x := ⟨_, rfl⟩
        rw [hxe] at hcell hx
        have HX := Lib.hid hxe
        clear hxe
        have HS := Lib.hid (HA.out.step (by have := hlen.out; omega) HX.out hx)
        go_wp2_with (at_builtin; refine wpList_append_any _ rfl (.tmp 24) (.tmp 28) _ rfl w.heap.size 63 i0 _ 1 4 Try.underlying46 hi0 hz0 hz1 hz2 rfl (by omega) _ k (o.map lv) rfl (hown.alloc _) (wr.heap.size + 1) (some ⟨wr.heap.size, 0, none⟩) 1 1 [lv ((2 * x + cc) % 4294967296)] rfl (reads_new' (by omega)) (by simp [lv, Value.oneCell']) (by unfold maxLen; omega) (by omega) (by simp; omega) ?_; intro v1 w1 hown1 hg1 hat1)
        exact ⟨⟨k + 1, _, _, by go_num, by go_num, by omega, HS.out, own_snoc hown1, below_row HB.out hBs hg1 rfl (own_base hown)⟩, by simp [intOf]; omega⟩
      · obtain ⟨d1, d2, d3⟩ := HA.out.done (show k = l.length by have := hlen.out; omega)
        have D1 := Lib.hid d1
        clear d1 d3
        go_wp2_with (first | (at_builtin; refine wpList_append_any _ rfl (.tmp 32) (.tmp 35) _ rfl w.heap.size 63 i0 _ 1 4 Try.underlying46 hi0 hz0 hz1 hz2 rfl (by omega) _ k (o.map lv) rfl (hown.alloc _) (wr.heap.size + 1) (some ⟨wr.heap.size, 0, none⟩) 1 1 [lv cc] rfl (reads_new' (by omega)) (by simp [lv, Value.oneCell']) (by unfold maxLen; omega) (by omega) (by simp; omega) ?_; intro v1 w1 hown1 hg1 hat1; have hB1 := below_row HB.out hBs hg1 rfl (own_base hown)) | (go_at_call 70; refine (trim_own (own_snoc hown1) d2 (by omega)).mono ?_; rw [D1.out]; rintro e w2 ⟨v2, rfl, hv2, hb2⟩))
        go_ret
        exact ⟨v2, rfl, hv2, hB1.trans (hb2.mono hB1.size)⟩
end Go.Proofs.Ytjlmchbpdkojeaa
