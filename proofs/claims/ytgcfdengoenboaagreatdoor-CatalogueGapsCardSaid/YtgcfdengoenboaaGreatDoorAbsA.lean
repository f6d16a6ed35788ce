/- The abstract interpreter, part A: block names, maps, abstract values, and what an abstract value says of a value of the model. -/
import Derived.WalkKit
import Derived.RangeFuncLeaves
import Derived.OrdersIn
namespace Go.Abs

/-- Digits, base four. -/
inductive DD where
  | a
  | b
  | c
  | d

def DD.v : DD → Nat
  | .a => 0
  | .b => 1
  | .c => 2
  | .d => 3

theorem va : DD.a.v = 0 := rfl

theorem DD.v_lt : ∀ x : DD, x.v < 4
  | .a => by decide
  | .b => by decide
  | .c => by decide
  | .d => by decide

theorem DD.v_inj : ∀ {x y : DD}, x.v = y.v → x = y := by
  intro x y h
  cases x <;> cases y <;> first | rfl | (simp [DD.v] at h)

/-- The digit of a number below four. -/
def dg (n : Nat) : DD := bif Nat.ble n 0 then .a else bif Nat.ble n 1 then .b else bif Nat.ble n 2 then .c else .d

theorem dg_v {n : Nat} (h : n < 4) : (dg n).v = n := by
  have : n = 0 ∨ n = 1 ∨ n = 2 ∨ n = 3 := by omega
  rcases this with rfl | rfl | rfl | rfl <;> rfl

/-- Names: of three, five, six, eight digits, and further ones. -/
inductive Pos where
  | s (x0 x1 x2 : DD)
  | m (x0 x1 x2 x3 x4 : DD)
  | l (x0 x1 x2 x3 x4 x5 : DD)
  | t (x0 x1 x2 x3 x4 x5 x6 x7 : DD)
  | x (n : Nat)

theorem dig_inj {a b : Nat} {x y : DD} (h : a * 4 + x.v = b * 4 + y.v) : a = b ∧ x = y := by
  have := x.v_lt; have := y.v_lt
  exact ⟨by omega, DD.v_inj (by omega)⟩
theorem dig_lt {a n : Nat} (x : DD) (h : a < n) : a * 4 + x.v < n * 4 := by have := x.v_lt; omega

def val_s (x0 x1 x2 : DD) : Nat := ((x0.v * 4 + x1.v) * 4 + x2.v)
theorem val_s_lt (x0 x1 x2 : DD) : val_s x0 x1 x2 < 64 := (dig_lt x2 (dig_lt x1 x0.v_lt))
def val_m (x0 x1 x2 x3 x4 : DD) : Nat := ((((x0.v * 4 + x1.v) * 4 + x2.v) * 4 + x3.v) * 4 + x4.v)
theorem val_m_lt (x0 x1 x2 x3 x4 : DD) : val_m x0 x1 x2 x3 x4 < 1024 := (dig_lt x4 (dig_lt x3 (dig_lt x2 (dig_lt x1 x0.v_lt))))
def val_l (x0 x1 x2 x3 x4 x5 : DD) : Nat := (((((x0.v * 4 + x1.v) * 4 + x2.v) * 4 + x3.v) * 4 + x4.v) * 4 + x5.v)
theorem val_l_lt (x0 x1 x2 x3 x4 x5 : DD) : val_l x0 x1 x2 x3 x4 x5 < 4096 := (dig_lt x5 (dig_lt x4 (dig_lt x3 (dig_lt x2 (dig_lt x1 x0.v_lt)))))
def val_t (x0 x1 x2 x3 x4 x5 x6 x7 : DD) : Nat := (((((((x0.v * 4 + x1.v) * 4 + x2.v) * 4 + x3.v) * 4 + x4.v) * 4 + x5.v) * 4 + x6.v) * 4 + x7.v)
theorem val_t_lt (x0 x1 x2 x3 x4 x5 x6 x7 : DD) : val_t x0 x1 x2 x3 x4 x5 x6 x7 < 65536 := (dig_lt x7 (dig_lt x6 (dig_lt x5 (dig_lt x4 (dig_lt x3 (dig_lt x2 (dig_lt x1 x0.v_lt)))))))

def Pos.toNat : Pos → Nat
  | .s x0 x1 x2 => 1 + val_s x0 x1 x2
  | .m x0 x1 x2 x3 x4 => 65 + val_m x0 x1 x2 x3 x4
  | .l x0 x1 x2 x3 x4 x5 => 1089 + val_l x0 x1 x2 x3 x4 x5
  | .t x0 x1 x2 x3 x4 x5 x6 x7 => 5185 + val_t x0 x1 x2 x3 x4 x5 x6 x7
  | .x n => 70721 + n

def Pos.ofNat (n : Nat) : Pos :=
  bif Nat.ble (n + 1) 64 then .s (dg ((n - 0) / 4 / 4 % 4)) (dg ((n - 0) / 4 % 4)) (dg ((n - 0) % 4)) else
  bif Nat.ble (n + 1) 1088 then .m (dg ((n - 64) / 4 / 4 / 4 / 4 % 4)) (dg ((n - 64) / 4 / 4 / 4 % 4)) (dg ((n - 64) / 4 / 4 % 4)) (dg ((n - 64) / 4 % 4)) (dg ((n - 64) % 4)) else
  bif Nat.ble (n + 1) 5184 then .l (dg ((n - 1088) / 4 / 4 / 4 / 4 / 4 % 4)) (dg ((n - 1088) / 4 / 4 / 4 / 4 % 4)) (dg ((n - 1088) / 4 / 4 / 4 % 4)) (dg ((n - 1088) / 4 / 4 % 4)) (dg ((n - 1088) / 4 % 4)) (dg ((n - 1088) % 4)) else
  bif Nat.ble (n + 1) 70720 then .t (dg ((n - 5184) / 4 / 4 / 4 / 4 / 4 / 4 / 4 % 4)) (dg ((n - 5184) / 4 / 4 / 4 / 4 / 4 / 4 % 4)) (dg ((n - 5184) / 4 / 4 / 4 / 4 / 4 % 4)) (dg ((n - 5184) / 4 / 4 / 4 / 4 % 4)) (dg ((n - 5184) / 4 / 4 / 4 % 4)) (dg ((n - 5184) / 4 / 4 % 4)) (dg ((n - 5184) / 4 % 4)) (dg ((n - 5184) % 4)) else
  .x (n - 70720)

def Pos.h : Pos := .s .a .a .a

theorem Pos.toNat_pos (p : Pos) : 0 < p.toNat := by
  cases p <;> simp only [Pos.toNat] <;> omega

theorem Pos.toNat_ofNat (n : Nat) : (Pos.ofNat n).toNat = n + 1 := by
  have hb : ∀ m : Nat, Nat.ble (n + 1) m = true ↔ n + 1 ≤ m := fun m => Iff.of_eq Nat.ble_eq
  have v4 : ∀ m : Nat, m / 4 * 4 + m % 4 = m := fun m => Nat.div_add_mod' m 4
  unfold Pos.ofNat
  cases h0 : Nat.ble (n + 1) 64
  rotate_left
  · rw [hb] at h0
    rw [cond_true]
    have ht : (n - 0) / 4 / 4 < 4 := by omega
    simp only [Pos.toNat, val_s]
    rw [dg_v (Nat.mod_lt _ (by decide)), dg_v (Nat.mod_lt _ (by decide)), dg_v (Nat.mod_lt _ (by decide))]
    rw [Nat.mod_eq_of_lt ht, v4, v4]
    omega
  rw [cond_false]
  cases h1 : Nat.ble (n + 1) 1088
  rotate_left
  · rw [hb] at h1
    have q : ¬ (n + 1 ≤ 64) := fun e => by rw [← hb] at e; rw [e] at h0; cases h0
    rw [cond_true]
    have ht : (n - 64) / 4 / 4 / 4 / 4 < 4 := by omega
    simp only [Pos.toNat, val_m]
    rw [dg_v (Nat.mod_lt _ (by decide)), dg_v (Nat.mod_lt _ (by decide)), dg_v (Nat.mod_lt _ (by decide)), dg_v (Nat.mod_lt _ (by decide)), dg_v (Nat.mod_lt _ (by decide))]
    rw [Nat.mod_eq_of_lt ht, v4, v4, v4, v4]
    omega
  rw [cond_false]
  cases h2 : Nat.ble (n + 1) 5184
  rotate_left
  · rw [hb] at h2
    have q : ¬ (n + 1 ≤ 1088) := fun e => by rw [← hb] at e; rw [e] at h1; cases h1
    rw [cond_true]
    have ht : (n - 1088) / 4 / 4 / 4 / 4 / 4 < 4 := by omega
    simp only [Pos.toNat, val_l]
    rw [dg_v (Nat.mod_lt _ (by decide)), dg_v (Nat.mod_lt _ (by decide)), dg_v (Nat.mod_lt _ (by decide)), dg_v (Nat.mod_lt _ (by decide)), dg_v (Nat.mod_lt _ (by decide)), dg_v (Nat.mod_lt _ (by decide))]
    rw [Nat.mod_eq_of_lt ht, v4, v4, v4, v4, v4]
    omega
  rw [cond_false]
  cases h3 : Nat.ble (n + 1) 70720
  rotate_left
  · rw [hb] at h3
    have q : ¬ (n + 1 ≤ 5184) := fun e => by rw [← hb] at e; rw [e] at h2; cases h2
    rw [cond_true]
    have ht : (n - 5184) / 4 / 4 / 4 / 4 / 4 / 4 / 4 < 4 := by omega
    simp only [Pos.toNat, val_t]
    rw [dg_v (Nat.mod_lt _ (by decide)), dg_v (Nat.mod_lt _ (by decide)), dg_v (Nat.mod_lt _ (by decide)), dg_v (Nat.mod_lt _ (by decide)), dg_v (Nat.mod_lt _ (by decide)), dg_v (Nat.mod_lt _ (by decide)), dg_v (Nat.mod_lt _ (by decide)), dg_v (Nat.mod_lt _ (by decide))]
    rw [Nat.mod_eq_of_lt ht, v4, v4, v4, v4, v4, v4, v4]
    omega
  rw [cond_false]
  have q : ¬ (n + 1 ≤ 70720) := fun e => by rw [← hb] at e; rw [e] at h3; cases h3
  simp only [Pos.toNat]
  omega

theorem Pos.ofNat_inj {m n : Nat} (h : Pos.ofNat m = Pos.ofNat n) : m = n := by
  have := congrArg Pos.toNat h
  rw [Pos.toNat_ofNat, Pos.toNat_ofNat] at this
  omega

theorem Pos.toNat_inj : ∀ {p q : Pos}, p.toNat = q.toNat → p = q := by
  intro p q h
  cases p <;> cases q
  case s.s x0 x1 x2 y0 y1 y2 =>
    simp only [Pos.toNat] at h
    have h2 := Nat.add_left_cancel h
    simp only [val_s] at h2
    obtain ⟨h1, e2⟩ := dig_inj h2
    obtain ⟨h0, e1⟩ := dig_inj h1
    have e0 := DD.v_inj h0
    rw [e0, e1, e2]
  case s.m x0 x1 x2 y0 y1 y2 y3 y4 =>
    simp only [Pos.toNat] at h
    have := val_s_lt x0 x1 x2
    have := val_m_lt y0 y1 y2 y3 y4
    exfalso; omega
  case s.l x0 x1 x2 y0 y1 y2 y3 y4 y5 =>
    simp only [Pos.toNat] at h
    have := val_s_lt x0 x1 x2
    have := val_l_lt y0 y1 y2 y3 y4 y5
    exfalso; omega
  case s.t x0 x1 x2 y0 y1 y2 y3 y4 y5 y6 y7 =>
    simp only [Pos.toNat] at h
    have := val_s_lt x0 x1 x2
    have := val_t_lt y0 y1 y2 y3 y4 y5 y6 y7
    exfalso; omega
  case s.x x0 x1 x2 y0 =>
    simp only [Pos.toNat] at h
    have := val_s_lt x0 x1 x2
    exfalso; omega
  case m.s x0 x1 x2 x3 x4 y0 y1 y2 =>
    simp only [Pos.toNat] at h
    have := val_m_lt x0 x1 x2 x3 x4
    have := val_s_lt y0 y1 y2
    exfalso; omega
  case m.m x0 x1 x2 x3 x4 y0 y1 y2 y3 y4 =>
    simp only [Pos.toNat] at h
    have h4 := Nat.add_left_cancel h
    simp only [val_m] at h4
    obtain ⟨h3, e4⟩ := dig_inj h4
    obtain ⟨h2, e3⟩ := dig_inj h3
    obtain ⟨h1, e2⟩ := dig_inj h2
    obtain ⟨h0, e1⟩ := dig_inj h1
    have e0 := DD.v_inj h0
    rw [e0, e1, e2, e3, e4]
  case m.l x0 x1 x2 x3 x4 y0 y1 y2 y3 y4 y5 =>
    simp only [Pos.toNat] at h
    have := val_m_lt x0 x1 x2 x3 x4
    have := val_l_lt y0 y1 y2 y3 y4 y5
    exfalso; omega
  case m.t x0 x1 x2 x3 x4 y0 y1 y2 y3 y4 y5 y6 y7 =>
    simp only [Pos.toNat] at h
    have := val_m_lt x0 x1 x2 x3 x4
    have := val_t_lt y0 y1 y2 y3 y4 y5 y6 y7
    exfalso; omega
  case m.x x0 x1 x2 x3 x4 y0 =>
    simp only [Pos.toNat] at h
    have := val_m_lt x0 x1 x2 x3 x4
    exfalso; omega
  case l.s x0 x1 x2 x3 x4 x5 y0 y1 y2 =>
    simp only [Pos.toNat] at h
    have := val_l_lt x0 x1 x2 x3 x4 x5
    have := val_s_lt y0 y1 y2
    exfalso; omega
  case l.m x0 x1 x2 x3 x4 x5 y0 y1 y2 y3 y4 =>
    simp only [Pos.toNat] at h
    have := val_l_lt x0 x1 x2 x3 x4 x5
    have := val_m_lt y0 y1 y2 y3 y4
    exfalso; omega
  case l.l x0 x1 x2 x3 x4 x5 y0 y1 y2 y3 y4 y5 =>
    simp only [Pos.toNat] at h
    have h5 := Nat.add_left_cancel h
    simp only [val_l] at h5
    obtain ⟨h4, e5⟩ := dig_inj h5
    obtain ⟨h3, e4⟩ := dig_inj h4
    obtain ⟨h2, e3⟩ := dig_inj h3
    obtain ⟨h1, e2⟩ := dig_inj h2
    obtain ⟨h0, e1⟩ := dig_inj h1
    have e0 := DD.v_inj h0
    rw [e0, e1, e2, e3, e4, e5]
  case l.t x0 x1 x2 x3 x4 x5 y0 y1 y2 y3 y4 y5 y6 y7 =>
    simp only [Pos.toNat] at h
    have := val_l_lt x0 x1 x2 x3 x4 x5
    have := val_t_lt y0 y1 y2 y3 y4 y5 y6 y7
    exfalso; omega
  case l.x x0 x1 x2 x3 x4 x5 y0 =>
    simp only [Pos.toNat] at h
    have := val_l_lt x0 x1 x2 x3 x4 x5
    exfalso; omega
  case t.s x0 x1 x2 x3 x4 x5 x6 x7 y0 y1 y2 =>
    simp only [Pos.toNat] at h
    have := val_t_lt x0 x1 x2 x3 x4 x5 x6 x7
    have := val_s_lt y0 y1 y2
    exfalso; omega
  case t.m x0 x1 x2 x3 x4 x5 x6 x7 y0 y1 y2 y3 y4 =>
    simp only [Pos.toNat] at h
    have := val_t_lt x0 x1 x2 x3 x4 x5 x6 x7
    have := val_m_lt y0 y1 y2 y3 y4
    exfalso; omega
  case t.l x0 x1 x2 x3 x4 x5 x6 x7 y0 y1 y2 y3 y4 y5 =>
    simp only [Pos.toNat] at h
    have := val_t_lt x0 x1 x2 x3 x4 x5 x6 x7
    have := val_l_lt y0 y1 y2 y3 y4 y5
    exfalso; omega
  case t.t x0 x1 x2 x3 x4 x5 x6 x7 y0 y1 y2 y3 y4 y5 y6 y7 =>
    simp only [Pos.toNat] at h
    have h7 := Nat.add_left_cancel h
    simp only [val_t] at h7
    obtain ⟨h6, e7⟩ := dig_inj h7
    obtain ⟨h5, e6⟩ := dig_inj h6
    obtain ⟨h4, e5⟩ := dig_inj h5
    obtain ⟨h3, e4⟩ := dig_inj h4
    obtain ⟨h2, e3⟩ := dig_inj h3
    obtain ⟨h1, e2⟩ := dig_inj h2
    obtain ⟨h0, e1⟩ := dig_inj h1
    have e0 := DD.v_inj h0
    rw [e0, e1, e2, e3, e4, e5, e6, e7]
  case t.x x0 x1 x2 x3 x4 x5 x6 x7 y0 =>
    simp only [Pos.toNat] at h
    have := val_t_lt x0 x1 x2 x3 x4 x5 x6 x7
    exfalso; omega
  case x.s n y0 y1 y2 =>
    simp only [Pos.toNat] at h
    have := val_s_lt y0 y1 y2
    exfalso; omega
  case x.m n y0 y1 y2 y3 y4 =>
    simp only [Pos.toNat] at h
    have := val_m_lt y0 y1 y2 y3 y4
    exfalso; omega
  case x.l n y0 y1 y2 y3 y4 y5 =>
    simp only [Pos.toNat] at h
    have := val_l_lt y0 y1 y2 y3 y4 y5
    exfalso; omega
  case x.t n y0 y1 y2 y3 y4 y5 y6 y7 =>
    simp only [Pos.toNat] at h
    have := val_t_lt y0 y1 y2 y3 y4 y5 y6 y7
    exfalso; omega
  case x.x n m => simp only [Pos.toNat] at h; obtain rfl : n = m := by omega
                  rfl

/-- The next name. -/
def nxD {α : Type} (x : DD) (c : α) (k : DD → α) : α := match x with
  | .a => k .b
  | .b => k .c
  | .c => k .d
  | .d => c

theorem nxD_cases {α : Type} (x : DD) (c : α) (k : DD → α) : (x.v = 3 ∧ nxD x c k = c) ∨ ∃ y : DD, y.v = x.v + 1 ∧ nxD x c k = k y := by
  cases x
  · exact .inr ⟨.b, rfl, rfl⟩
  · exact .inr ⟨.c, rfl, rfl⟩
  · exact .inr ⟨.d, rfl, rfl⟩
  · exact .inl ⟨rfl, rfl⟩

def Pos.succ : Pos → Pos
  | .s x0 x1 x2 => nxD x2 (nxD x1 (nxD x0 (.m .a .a .a .a .a) (fun y => .s y .a .a)) (fun y => .s x0 y .a)) (fun y => .s x0 x1 y)
  | .m x0 x1 x2 x3 x4 => nxD x4 (nxD x3 (nxD x2 (nxD x1 (nxD x0 (.l .a .a .a .a .a .a) (fun y => .m y .a .a .a .a)) (fun y => .m x0 y .a .a .a)) (fun y => .m x0 x1 y .a .a)) (fun y => .m x0 x1 x2 y .a)) (fun y => .m x0 x1 x2 x3 y)
  | .l x0 x1 x2 x3 x4 x5 => nxD x5 (nxD x4 (nxD x3 (nxD x2 (nxD x1 (nxD x0 (.t .a .a .a .a .a .a .a .a) (fun y => .l y .a .a .a .a .a)) (fun y => .l x0 y .a .a .a .a)) (fun y => .l x0 x1 y .a .a .a)) (fun y => .l x0 x1 x2 y .a .a)) (fun y => .l x0 x1 x2 x3 y .a)) (fun y => .l x0 x1 x2 x3 x4 y)
  | .t x0 x1 x2 x3 x4 x5 x6 x7 => nxD x7 (nxD x6 (nxD x5 (nxD x4 (nxD x3 (nxD x2 (nxD x1 (nxD x0 (.x 0) (fun y => .t y .a .a .a .a .a .a .a)) (fun y => .t x0 y .a .a .a .a .a .a)) (fun y => .t x0 x1 y .a .a .a .a .a)) (fun y => .t x0 x1 x2 y .a .a .a .a)) (fun y => .t x0 x1 x2 x3 y .a .a .a)) (fun y => .t x0 x1 x2 x3 x4 y .a .a)) (fun y => .t x0 x1 x2 x3 x4 x5 y .a)) (fun y => .t x0 x1 x2 x3 x4 x5 x6 y)
  | .x n => .x (n + 1)

theorem Pos.toNat_succ : ∀ p : Pos, p.succ.toNat = p.toNat + 1 := by
  intro p
  cases p
  case s x0 x1 x2 =>
    show Pos.toNat (nxD x2 (nxD x1 (nxD x0 (.m .a .a .a .a .a) (fun y => .s y .a .a)) (fun y => .s x0 y .a)) (fun y => .s x0 x1 y)) = _
    rcases nxD_cases x2 (α := Pos) _ _ with ⟨h2, e⟩ | ⟨y, h2, e⟩
    rotate_left
    · rw [e]; simp only [Pos.toNat, val_s]; omega
    rw [e]; clear e
    rcases nxD_cases x1 (α := Pos) _ _ with ⟨h1, e⟩ | ⟨y, h1, e⟩
    rotate_left
    · rw [e]; simp only [Pos.toNat, val_s, va]; omega
    rw [e]; clear e
    rcases nxD_cases x0 (α := Pos) _ _ with ⟨h0, e⟩ | ⟨y, h0, e⟩
    rotate_left
    · rw [e]; simp only [Pos.toNat, val_s, va]; omega
    rw [e]; clear e
    simp only [Pos.toNat, val_s, val_m, va]; omega
  case m x0 x1 x2 x3 x4 =>
    show Pos.toNat (nxD x4 (nxD x3 (nxD x2 (nxD x1 (nxD x0 (.l .a .a .a .a .a .a) (fun y => .m y .a .a .a .a)) (fun y => .m x0 y .a .a .a)) (fun y => .m x0 x1 y .a .a)) (fun y => .m x0 x1 x2 y .a)) (fun y => .m x0 x1 x2 x3 y)) = _
    rcases nxD_cases x4 (α := Pos) _ _ with ⟨h4, e⟩ | ⟨y, h4, e⟩
    rotate_left
    · rw [e]; simp only [Pos.toNat, val_m]; omega
    rw [e]; clear e
    rcases nxD_cases x3 (α := Pos) _ _ with ⟨h3, e⟩ | ⟨y, h3, e⟩
    rotate_left
    · rw [e]; simp only [Pos.toNat, val_m, va]; omega
    rw [e]; clear e
    rcases nxD_cases x2 (α := Pos) _ _ with ⟨h2, e⟩ | ⟨y, h2, e⟩
    rotate_left
    · rw [e]; simp only [Pos.toNat, val_m, va]; omega
    rw [e]; clear e
    rcases nxD_cases x1 (α := Pos) _ _ with ⟨h1, e⟩ | ⟨y, h1, e⟩
    rotate_left
    · rw [e]; simp only [Pos.toNat, val_m, va]; omega
    rw [e]; clear e
    rcases nxD_cases x0 (α := Pos) _ _ with ⟨h0, e⟩ | ⟨y, h0, e⟩
    rotate_left
    · rw [e]; simp only [Pos.toNat, val_m, va]; omega
    rw [e]; clear e
    simp only [Pos.toNat, val_m, val_l, va]; omega
  case l x0 x1 x2 x3 x4 x5 =>
    show Pos.toNat (nxD x5 (nxD x4 (nxD x3 (nxD x2 (nxD x1 (nxD x0 (.t .a .a .a .a .a .a .a .a) (fun y => .l y .a .a .a .a .a)) (fun y => .l x0 y .a .a .a .a)) (fun y => .l x0 x1 y .a .a .a)) (fun y => .l x0 x1 x2 y .a .a)) (fun y => .l x0 x1 x2 x3 y .a)) (fun y => .l x0 x1 x2 x3 x4 y)) = _
    rcases nxD_cases x5 (α := Pos) _ _ with ⟨h5, e⟩ | ⟨y, h5, e⟩
    rotate_left
    · rw [e]; simp only [Pos.toNat, val_l]; omega
    rw [e]; clear e
    rcases nxD_cases x4 (α := Pos) _ _ with ⟨h4, e⟩ | ⟨y, h4, e⟩
    rotate_left
    · rw [e]; simp only [Pos.toNat, val_l, va]; omega
    rw [e]; clear e
    rcases nxD_cases x3 (α := Pos) _ _ with ⟨h3, e⟩ | ⟨y, h3, e⟩
    rotate_left
    · rw [e]; simp only [Pos.toNat, val_l, va]; omega
    rw [e]; clear e
    rcases nxD_cases x2 (α := Pos) _ _ with ⟨h2, e⟩ | ⟨y, h2, e⟩
    rotate_left
    · rw [e]; simp only [Pos.toNat, val_l, va]; omega
    rw [e]; clear e
    rcases nxD_cases x1 (α := Pos) _ _ with ⟨h1, e⟩ | ⟨y, h1, e⟩
    rotate_left
    · rw [e]; simp only [Pos.toNat, val_l, va]; omega
    rw [e]; clear e
    rcases nxD_cases x0 (α := Pos) _ _ with ⟨h0, e⟩ | ⟨y, h0, e⟩
    rotate_left
    · rw [e]; simp only [Pos.toNat, val_l, va]; omega
    rw [e]; clear e
    simp only [Pos.toNat, val_l, val_t, va]; omega
  case t x0 x1 x2 x3 x4 x5 x6 x7 =>
    show Pos.toNat (nxD x7 (nxD x6 (nxD x5 (nxD x4 (nxD x3 (nxD x2 (nxD x1 (nxD x0 (.x 0) (fun y => .t y .a .a .a .a .a .a .a)) (fun y => .t x0 y .a .a .a .a .a .a)) (fun y => .t x0 x1 y .a .a .a .a .a)) (fun y => .t x0 x1 x2 y .a .a .a .a)) (fun y => .t x0 x1 x2 x3 y .a .a .a)) (fun y => .t x0 x1 x2 x3 x4 y .a .a)) (fun y => .t x0 x1 x2 x3 x4 x5 y .a)) (fun y => .t x0 x1 x2 x3 x4 x5 x6 y)) = _
    rcases nxD_cases x7 (α := Pos) _ _ with ⟨h7, e⟩ | ⟨y, h7, e⟩
    rotate_left
    · rw [e]; simp only [Pos.toNat, val_t]; omega
    rw [e]; clear e
    rcases nxD_cases x6 (α := Pos) _ _ with ⟨h6, e⟩ | ⟨y, h6, e⟩
    rotate_left
    · rw [e]; simp only [Pos.toNat, val_t, va]; omega
    rw [e]; clear e
    rcases nxD_cases x5 (α := Pos) _ _ with ⟨h5, e⟩ | ⟨y, h5, e⟩
    rotate_left
    · rw [e]; simp only [Pos.toNat, val_t, va]; omega
    rw [e]; clear e
    rcases nxD_cases x4 (α := Pos) _ _ with ⟨h4, e⟩ | ⟨y, h4, e⟩
    rotate_left
    · rw [e]; simp only [Pos.toNat, val_t, va]; omega
    rw [e]; clear e
    rcases nxD_cases x3 (α := Pos) _ _ with ⟨h3, e⟩ | ⟨y, h3, e⟩
    rotate_left
    · rw [e]; simp only [Pos.toNat, val_t, va]; omega
    rw [e]; clear e
    rcases nxD_cases x2 (α := Pos) _ _ with ⟨h2, e⟩ | ⟨y, h2, e⟩
    rotate_left
    · rw [e]; simp only [Pos.toNat, val_t, va]; omega
    rw [e]; clear e
    rcases nxD_cases x1 (α := Pos) _ _ with ⟨h1, e⟩ | ⟨y, h1, e⟩
    rotate_left
    · rw [e]; simp only [Pos.toNat, val_t, va]; omega
    rw [e]; clear e
    rcases nxD_cases x0 (α := Pos) _ _ with ⟨h0, e⟩ | ⟨y, h0, e⟩
    rotate_left
    · rw [e]; simp only [Pos.toNat, val_t, va]; omega
    rw [e]; clear e
    simp only [Pos.toNat, val_t]; omega
  case x n => simp only [Pos.succ, Pos.toNat]; omega

/-- Nodes with four branches. -/
inductive N4 (S : Type) where
  | mk (a b c d : S)

def sel {S : Type} : DD → N4 S → S
  | .a, .mk a _ _ _ => a
  | .b, .mk _ b _ _ => b
  | .c, .mk _ _ c _ => c
  | .d, .mk _ _ _ d => d
def upd {S : Type} : DD → N4 S → S → N4 S
  | .a, .mk _ b c d, s => .mk s b c d
  | .b, .mk a _ c d, s => .mk a s c d
  | .c, .mk a b _ d, s => .mk a b s d
  | .d, .mk a b c _, s => .mk a b c s

theorem sel_same {S : Type} (x : DD) (n : N4 S) (s : S) : sel x (upd x n s) = s := by cases n; cases x <;> rfl
theorem sel_other {S : Type} {x y : DD} (h : x ≠ y) (n : N4 S) (s : S) : sel x (upd y n s) = sel x n := by
  cases n; cases x <;> cases y <;> first | rfl | exact absurd rfl h

/-- Maps from names. -/
inductive PT (α : Type) where
  | mk (s : (N4 (N4 (N4 (Option α))))) (m : (N4 (N4 (N4 (N4 (N4 (Option α))))))) (l : (N4 (N4 (N4 (N4 (N4 (N4 (Option α)))))))) (t : (N4 (N4 (N4 (N4 (N4 (N4 (N4 (N4 (Option α)))))))))) (x : Nat → Option α)

def emp0 {α : Type} : Option α := none
def emp1 {α : Type} : N4 (Option α) := .mk emp0 emp0 emp0 emp0
def emp2 {α : Type} : N4 (N4 (Option α)) := .mk emp1 emp1 emp1 emp1
def emp3 {α : Type} : N4 (N4 (N4 (Option α))) := .mk emp2 emp2 emp2 emp2
def emp4 {α : Type} : N4 (N4 (N4 (N4 (Option α)))) := .mk emp3 emp3 emp3 emp3
def emp5 {α : Type} : N4 (N4 (N4 (N4 (N4 (Option α))))) := .mk emp4 emp4 emp4 emp4
def emp6 {α : Type} : N4 (N4 (N4 (N4 (N4 (N4 (Option α)))))) := .mk emp5 emp5 emp5 emp5
def emp7 {α : Type} : N4 (N4 (N4 (N4 (N4 (N4 (N4 (Option α))))))) := .mk emp6 emp6 emp6 emp6
def emp8 {α : Type} : N4 (N4 (N4 (N4 (N4 (N4 (N4 (N4 (Option α)))))))) := .mk emp7 emp7 emp7 emp7
def PT.lf {α : Type} : PT α := .mk emp3 emp5 emp6 emp8 (fun _ => none)

def PT.get {α : Type} : Pos → PT α → Option α
  | .s x0 x1 x2, .mk s _ _ _ _ => sel x2 (sel x1 (sel x0 s))
  | .m x0 x1 x2 x3 x4, .mk _ m _ _ _ => sel x4 (sel x3 (sel x2 (sel x1 (sel x0 m))))
  | .l x0 x1 x2 x3 x4 x5, .mk _ _ l _ _ => sel x5 (sel x4 (sel x3 (sel x2 (sel x1 (sel x0 l)))))
  | .t x0 x1 x2 x3 x4 x5 x6 x7, .mk _ _ _ t _ => sel x7 (sel x6 (sel x5 (sel x4 (sel x3 (sel x2 (sel x1 (sel x0 t)))))))
  | .x n, .mk _ _ _ _ x => x n

def PT.put {α : Type} : Pos → Option α → PT α → PT α
  | .s x0 x1 x2, v, .mk s m l t x => .mk (upd x0 s (upd x1 (sel x0 s) (upd x2 (sel x1 (sel x0 s)) v))) m l t x
  | .m x0 x1 x2 x3 x4, v, .mk s m l t x => .mk s (upd x0 m (upd x1 (sel x0 m) (upd x2 (sel x1 (sel x0 m)) (upd x3 (sel x2 (sel x1 (sel x0 m))) (upd x4 (sel x3 (sel x2 (sel x1 (sel x0 m)))) v))))) l t x
  | .l x0 x1 x2 x3 x4 x5, v, .mk s m l t x => .mk s m (upd x0 l (upd x1 (sel x0 l) (upd x2 (sel x1 (sel x0 l)) (upd x3 (sel x2 (sel x1 (sel x0 l))) (upd x4 (sel x3 (sel x2 (sel x1 (sel x0 l)))) (upd x5 (sel x4 (sel x3 (sel x2 (sel x1 (sel x0 l))))) v)))))) t x
  | .t x0 x1 x2 x3 x4 x5 x6 x7, v, .mk s m l t x => .mk s m l (upd x0 t (upd x1 (sel x0 t) (upd x2 (sel x1 (sel x0 t)) (upd x3 (sel x2 (sel x1 (sel x0 t))) (upd x4 (sel x3 (sel x2 (sel x1 (sel x0 t)))) (upd x5 (sel x4 (sel x3 (sel x2 (sel x1 (sel x0 t))))) (upd x6 (sel x5 (sel x4 (sel x3 (sel x2 (sel x1 (sel x0 t)))))) (upd x7 (sel x6 (sel x5 (sel x4 (sel x3 (sel x2 (sel x1 (sel x0 t))))))) v)))))))) x
  | .x n, v, .mk s m l t x => .mk s m l t (fun m => bif Nat.beq m n then v else x m)

theorem sel_emp1 {α : Type} (x : DD) : sel x (emp1 : (N4 (Option α))) = (emp0 : (Option α)) := by cases x <;> rfl
theorem sel_emp2 {α : Type} (x : DD) : sel x (emp2 : (N4 (N4 (Option α)))) = (emp1 : (N4 (Option α))) := by cases x <;> rfl
theorem sel_emp3 {α : Type} (x : DD) : sel x (emp3 : (N4 (N4 (N4 (Option α))))) = (emp2 : (N4 (N4 (Option α)))) := by cases x <;> rfl
theorem sel_emp4 {α : Type} (x : DD) : sel x (emp4 : (N4 (N4 (N4 (N4 (Option α)))))) = (emp3 : (N4 (N4 (N4 (Option α))))) := by cases x <;> rfl
theorem sel_emp5 {α : Type} (x : DD) : sel x (emp5 : (N4 (N4 (N4 (N4 (N4 (Option α))))))) = (emp4 : (N4 (N4 (N4 (N4 (Option α)))))) := by cases x <;> rfl
theorem sel_emp6 {α : Type} (x : DD) : sel x (emp6 : (N4 (N4 (N4 (N4 (N4 (N4 (Option α)))))))) = (emp5 : (N4 (N4 (N4 (N4 (N4 (Option α))))))) := by cases x <;> rfl
theorem sel_emp7 {α : Type} (x : DD) : sel x (emp7 : (N4 (N4 (N4 (N4 (N4 (N4 (N4 (Option α))))))))) = (emp6 : (N4 (N4 (N4 (N4 (N4 (N4 (Option α)))))))) := by cases x <;> rfl
theorem sel_emp8 {α : Type} (x : DD) : sel x (emp8 : (N4 (N4 (N4 (N4 (N4 (N4 (N4 (N4 (Option α)))))))))) = (emp7 : (N4 (N4 (N4 (N4 (N4 (N4 (N4 (Option α))))))))) := by cases x <;> rfl

theorem PT.get_lf {α : Type} (p : Pos) : PT.get p (.lf : PT α) = none := by
  cases p
  case s x0 x1 x2 =>
    show sel x2 (sel x1 (sel x0 ((emp3 : (N4 (N4 (N4 (Option α)))))))) = none
    rw [sel_emp3, sel_emp2, sel_emp1]; rfl
  case m x0 x1 x2 x3 x4 =>
    show sel x4 (sel x3 (sel x2 (sel x1 (sel x0 ((emp5 : (N4 (N4 (N4 (N4 (N4 (Option α)))))))))))) = none
    rw [sel_emp5, sel_emp4, sel_emp3, sel_emp2, sel_emp1]; rfl
  case l x0 x1 x2 x3 x4 x5 =>
    show sel x5 (sel x4 (sel x3 (sel x2 (sel x1 (sel x0 ((emp6 : (N4 (N4 (N4 (N4 (N4 (N4 (Option α)))))))))))))) = none
    rw [sel_emp6, sel_emp5, sel_emp4, sel_emp3, sel_emp2, sel_emp1]; rfl
  case t x0 x1 x2 x3 x4 x5 x6 x7 =>
    show sel x7 (sel x6 (sel x5 (sel x4 (sel x3 (sel x2 (sel x1 (sel x0 ((emp8 : (N4 (N4 (N4 (N4 (N4 (N4 (N4 (N4 (Option α)))))))))))))))))) = none
    rw [sel_emp8, sel_emp7, sel_emp6, sel_emp5, sel_emp4, sel_emp3, sel_emp2, sel_emp1]; rfl
  case x n => rfl

theorem PT.get_put_same {α : Type} : ∀ (p : Pos) (x : Option α) (t : PT α), PT.get p (PT.put p x t) = x := by
  intro p v t
  cases t with | mk s m l t xx =>
  cases p
  case s x0 x1 x2 => simp only [PT.get, PT.put, sel_same]
  case m x0 x1 x2 x3 x4 => simp only [PT.get, PT.put, sel_same]
  case l x0 x1 x2 x3 x4 x5 => simp only [PT.get, PT.put, sel_same]
  case t x0 x1 x2 x3 x4 x5 x6 x7 => simp only [PT.get, PT.put, sel_same]
  case x n => simp only [PT.get, PT.put]; rw [Nat.beq_refl]; rfl

theorem PT.get_put_other {α : Type} : ∀ (p q : Pos) (x : Option α) (t : PT α), q ≠ p → PT.get q (PT.put p x t) = PT.get q t := by
  intro p q v t h
  cases t with | mk s m l t xx =>
  cases p <;> cases q
  case s.s x0 x1 x2 y0 y1 y2 =>
    simp only [PT.get, PT.put]
    by_cases h0 : y0 = x0
    rotate_left
    · rw [sel_other h0]
    subst h0
    rw [sel_same]
    by_cases h1 : y1 = x1
    rotate_left
    · rw [sel_other h1]
    subst h1
    rw [sel_same]
    by_cases h2 : y2 = x2
    rotate_left
    · rw [sel_other h2]
    subst h2
    rw [sel_same]
    exact absurd rfl h
  case s.m => rfl
  case s.l => rfl
  case s.t => rfl
  case s.x => rfl
  case m.s => rfl
  case m.m x0 x1 x2 x3 x4 y0 y1 y2 y3 y4 =>
    simp only [PT.get, PT.put]
    by_cases h0 : y0 = x0
    rotate_left
    · rw [sel_other h0]
    subst h0
    rw [sel_same]
    by_cases h1 : y1 = x1
    rotate_left
    · rw [sel_other h1]
    subst h1
    rw [sel_same]
    by_cases h2 : y2 = x2
    rotate_left
    · rw [sel_other h2]
    subst h2
    rw [sel_same]
    by_cases h3 : y3 = x3
    rotate_left
    · rw [sel_other h3]
    subst h3
    rw [sel_same]
    by_cases h4 : y4 = x4
    rotate_left
    · rw [sel_other h4]
    subst h4
    rw [sel_same]
    exact absurd rfl h
  case m.l => rfl
  case m.t => rfl
  case m.x => rfl
  case l.s => rfl
  case l.m => rfl
  case l.l x0 x1 x2 x3 x4 x5 y0 y1 y2 y3 y4 y5 =>
    simp only [PT.get, PT.put]
    by_cases h0 : y0 = x0
    rotate_left
    · rw [sel_other h0]
    subst h0
    rw [sel_same]
    by_cases h1 : y1 = x1
    rotate_left
    · rw [sel_other h1]
    subst h1
    rw [sel_same]
    by_cases h2 : y2 = x2
    rotate_left
    · rw [sel_other h2]
    subst h2
    rw [sel_same]
    by_cases h3 : y3 = x3
    rotate_left
    · rw [sel_other h3]
    subst h3
    rw [sel_same]
    by_cases h4 : y4 = x4
    rotate_left
    · rw [sel_other h4]
    subst h4
    rw [sel_same]
    by_cases h5 : y5 = x5
    rotate_left
    · rw [sel_other h5]
    subst h5
    rw [sel_same]
    exact absurd rfl h
  case l.t => rfl
  case l.x => rfl
  case t.s => rfl
  case t.m => rfl
  case t.l => rfl
  case t.t x0 x1 x2 x3 x4 x5 x6 x7 y0 y1 y2 y3 y4 y5 y6 y7 =>
    simp only [PT.get, PT.put]
    by_cases h0 : y0 = x0
    rotate_left
    · rw [sel_other h0]
    subst h0
    rw [sel_same]
    by_cases h1 : y1 = x1
    rotate_left
    · rw [sel_other h1]
    subst h1
    rw [sel_same]
    by_cases h2 : y2 = x2
    rotate_left
    · rw [sel_other h2]
    subst h2
    rw [sel_same]
    by_cases h3 : y3 = x3
    rotate_left
    · rw [sel_other h3]
    subst h3
    rw [sel_same]
    by_cases h4 : y4 = x4
    rotate_left
    · rw [sel_other h4]
    subst h4
    rw [sel_same]
    by_cases h5 : y5 = x5
    rotate_left
    · rw [sel_other h5]
    subst h5
    rw [sel_same]
    by_cases h6 : y6 = x6
    rotate_left
    · rw [sel_other h6]
    subst h6
    rw [sel_same]
    by_cases h7 : y7 = x7
    rotate_left
    · rw [sel_other h7]
    subst h7
    rw [sel_same]
    exact absurd rfl h
  case t.x => rfl
  case x.s => rfl
  case x.m => rfl
  case x.l => rfl
  case x.t => rfl
  case x.x n m =>
    simp only [PT.get, PT.put]
    cases e : Nat.beq m n with
    | false => rfl
    | true => exact absurd (by rw [Nat.eq_of_beq_eq_true e]) h

/-- Abstract values. A pointer or a slice names its block; a slice's capacity is known ('ex') or bounded from below. -/
inductive AV where
  | bool (b : Bool)
  | int (k : IntKind) (n : Int)
  | rng (k : IntKind) (lo hi : Int)
  | str (l : List Nat)
  | anys (m : Nat)
  | nilp
  | ptr (id : Pos) (off : Nat)
  | nilsl
  | sl (id : Pos) (off len : Nat) (ex : Bool) (cap es : Nat)
  | nilmap
  | fn (f : Fn) (fs cs : List AV)
  | yld (id : Pos)
  | mp (id : Pos)
  | nilfn
  | ifc (t : TypeId) (v : AV)
  | nilifc
  | agg (l : List AV)
  | tup (l : List AV)
  | any

/-- Where the blocks lie: the model's block, the offset in it, how many cells from there on. -/
abbrev Env := Pos → Option (Nat × Nat × Nat)

mutual
def Rel (ρ : Env) : AV → Value → Prop
  | .bool b, v => v = .bool b
  | .int k n, v => v = .int k n
  | .rng k lo hi, v => ∃ n, lo ≤ n ∧ n ≤ hi ∧ v = .int k n
  | .str l, v => ∃ s : ByteArray, v = .string s ∧ s.data.toList.map UInt8.toNat = l
  | .anys m, v => ∃ s : ByteArray, v = .string s ∧ s.size ≤ m
  | .nilp, v => v = .pointer none
  | .ptr id off, v => ∃ b o m, ρ id = some (b, o, m) ∧ v = .pointer (some ⟨b, o + off, none⟩)
  | .nilsl, v => v = .slice none 0 0
  | .sl id off len ex cap es, v => ∃ b o m c, ρ id = some (b, o, m) ∧ cap ≤ c ∧ (ex = true → c = cap) ∧ off + c * es ≤ m ∧ v = .slice (some ⟨b, o + off, none⟩) len c
  | .nilmap, v => v = .map none
  | .fn f fs cs, v => ∃ fs' cs' : Array Value, v = .func f fs' cs' ∧ RelL ρ fs fs'.toList ∧ RelL ρ cs cs'.toList
  | .yld id, v => ∃ b o m, ρ id = some (b, o, m) ∧ v = .func (.yield b) #[] #[]
  | .mp id, v => ∃ b o m, ρ id = some (b, o, m) ∧ v = .map (some b)
  | .nilfn, v => v = .nilFunc
  | .ifc t x, v => ∃ x', v = .iface t x' ∧ Rel ρ x x'
  | .nilifc, v => v = .nilIface
  | .agg l, v => ∃ cs : Array Value, v = .agg cs ∧ RelL ρ l cs.toList
  | .tup l, v => ∃ cs : Array Value, v = .tuple cs ∧ RelL ρ l cs.toList
  | .any, _ => True
def RelL (ρ : Env) : List AV → List Value → Prop
  | [], vs => vs = []
  | a :: l, vs => ∃ v vs', vs = v :: vs' ∧ Rel ρ a v ∧ RelL ρ l vs'
 end

def Env.le (ρ ρ' : Env) : Prop := ∀ id x, ρ id = some x → ρ' id = some x

theorem Env.le_refl (ρ : Env) : ρ.le ρ := fun _ _ h => h
theorem Env.le_trans {a b c : Env} (h : a.le b) (k : b.le c) : a.le c := fun i x e => k i x (h i x e)

mutual
theorem Rel.mono {ρ ρ' : Env} (h : ρ.le ρ') : (a : AV) → {v : Value} → Rel ρ a v → Rel ρ' a v
  | .bool b, _, r => r
  | .int k n, _, r => r
  | .rng k lo hi, _, r => r
  | .str l, _, r => r
  | .anys m, _, r => r
  | .nilp, _, r => r
  | .ptr id off, _, r => by
    simp only [Rel] at r ⊢
    obtain ⟨b, o, m, e, r⟩ := r
    exact ⟨b, o, m, h _ _ e, r⟩
  | .nilsl, _, r => r
  | .sl id off len ex cap es, _, r => by
    simp only [Rel] at r ⊢
    obtain ⟨b, o, m, c, e, r⟩ := r
    exact ⟨b, o, m, c, h _ _ e, r⟩
  | .nilmap, _, r => r
  | .fn f fs cs, _, r => by
    simp only [Rel] at r ⊢
    obtain ⟨fs', cs', e, r1, r2⟩ := r
    exact ⟨fs', cs', e, RelL.mono h fs r1, RelL.mono h cs r2⟩
  | .yld id, _, r => by
    simp only [Rel] at r ⊢
    obtain ⟨b, o, m, e, r⟩ := r
    exact ⟨b, o, m, h _ _ e, r⟩
  | .mp id, _, r => by
    simp only [Rel] at r ⊢
    obtain ⟨b, o, m, e, r⟩ := r
    exact ⟨b, o, m, h _ _ e, r⟩
  | .nilfn, _, r => r
  | .ifc t x, _, r => by
    simp only [Rel] at r ⊢
    obtain ⟨x', e, r⟩ := r
    exact ⟨x', e, Rel.mono h x r⟩
  | .nilifc, _, r => r
  | .agg l, _, r => by
    simp only [Rel] at r ⊢
    obtain ⟨cs, e, r⟩ := r
    exact ⟨cs, e, RelL.mono h l r⟩
  | .tup l, _, r => by
    simp only [Rel] at r ⊢
    obtain ⟨cs, e, r⟩ := r
    exact ⟨cs, e, RelL.mono h l r⟩
  | .any, _, _ => by simp only [Rel]
theorem RelL.mono {ρ ρ' : Env} (h : ρ.le ρ') : (l : List AV) → {vs : List Value} → RelL ρ l vs → RelL ρ' l vs
  | [], _, r => r
  | a :: l, _, r => by
    simp only [RelL] at r ⊢
    obtain ⟨v, vs', e, r1, r2⟩ := r
    exact ⟨v, vs', e, Rel.mono h a r1, RelL.mono h l r2⟩
 end

section
variable {ρ : Env}

theorem RelL.nil : RelL ρ [] [] := by simp [RelL]
theorem RelL.cons {a : AV} {l : List AV} {v : Value} {vs : List Value} (h : Rel ρ a v) (k : RelL ρ l vs) : RelL ρ (a :: l) (v :: vs) := by
  simp only [RelL]
  exact ⟨v, vs, rfl, h, k⟩

theorem RelL.length : ∀ {l : List AV} {vs : List Value}, RelL ρ l vs → l.length = vs.length
  | [], vs, h => by simp only [RelL] at h; subst h; rfl
  | a :: l, vs, h => by
    simp only [RelL] at h
    obtain ⟨v, vs', rfl, _, h⟩ := h
    simp [RelL.length h]

theorem RelL.get : ∀ {l : List AV} {vs : List Value}, RelL ρ l vs → ∀ {i : Nat} {a : AV}, l[i]? = some a → ∃ v, vs[i]? = some v ∧ Rel ρ a v
  | [], vs, h, i, a, e => by simp at e
  | a :: l, vs, h, i, x, e => by
    simp only [RelL] at h
    obtain ⟨v, vs', rfl, h1, h2⟩ := h
    cases i with
    | zero => simp at e; subst e; exact ⟨v, by simp, h1⟩
    | succ i => simp at e; simpa using RelL.get h2 e

theorem RelL.of_get : ∀ {l : List AV} {vs : List Value}, l.length = vs.length → (∀ (i : Nat) (a : AV) (v : Value), l[i]? = some a → vs[i]? = some v → Rel ρ a v) → RelL ρ l vs
  | [], [], _, _ => RelL.nil
  | [], _ :: _, e, _ => by simp at e
  | _ :: _, [], e, _ => by simp at e
  | a :: l, v :: vs, e, h => RelL.cons (h 0 a v (by simp) (by simp)) (RelL.of_get (by simpa using e) (fun i x y hx hy => h (i + 1) x y (by simpa using hx) (by simpa using hy)))

theorem RelL.append {l m : List AV} {vs us : List Value} (h : RelL ρ l vs) (k : RelL ρ m us) : RelL ρ (l ++ m) (vs ++ us) := by
  induction l generalizing vs with
  | nil => simp only [RelL] at h; subst h; simpa using k
  | cons a l ih =>
    simp only [RelL] at h
    obtain ⟨v, vs', rfl, h1, h2⟩ := h
    simpa using RelL.cons h1 (ih h2)

theorem RelL.take {l : List AV} {vs : List Value} (h : RelL ρ l vs) (n : Nat) : RelL ρ (l.take n) (vs.take n) := by
  induction l generalizing vs n with
  | nil => simp only [RelL] at h; subst h; simp [RelL]
  | cons a l ih =>
    simp only [RelL] at h
    obtain ⟨v, vs', rfl, h1, h2⟩ := h
    cases n with
    | zero => simp [RelL]
    | succ n => simpa using RelL.cons h1 (ih h2 n)

theorem RelL.drop {l : List AV} {vs : List Value} (h : RelL ρ l vs) (n : Nat) : RelL ρ (l.drop n) (vs.drop n) := by
  induction l generalizing vs n with
  | nil => simp only [RelL] at h; subst h; simp [RelL]
  | cons a l ih =>
    simp only [RelL] at h
    obtain ⟨v, vs', rfl, h1, h2⟩ := h
    cases n with
    | zero => simpa using RelL.cons h1 h2
    | succ n => simpa using ih h2 n
end

/-- An abstract value that names no block, of a value that does. -/
def ofVal : Value → Option AV
  | .bool b => some (.bool b)
  | .int k n => some (.int k n)
  | .string s => some (.str (s.data.toList.map UInt8.toNat))
  | .pointer none => some .nilp
  | .slice none 0 0 => some .nilsl
  | .map none => some .nilmap
  | .nilFunc => some .nilfn
  | .nilIface => some .nilifc
  | _ => none

theorem ofVal_rel {ρ : Env} {v : Value} {a : AV} (h : ofVal v = some a) : Rel ρ a v := by
  unfold ofVal at h
  split at h <;> simp only [Option.some.injEq, reduceCtorEq] at h <;> subst h <;> simp [Rel]

def ofVals : List Value → Option (List AV)
  | [] => some []
  | v :: vs => match ofVal v, ofVals vs with
    | some a, some l => some (a :: l)
    | _, _ => none

theorem ofVals_rel {ρ : Env} : ∀ {vs : List Value} {l : List AV}, ofVals vs = some l → RelL ρ l vs
  | [], l, h => by simp [ofVals] at h; subst h; exact RelL.nil
  | v :: vs, l, h => by
    simp only [ofVals] at h
    split at h
    · rename_i a m h1 h2
      simp at h; subst h
      exact RelL.cons (ofVal_rel h1) (ofVals_rel h2)
    · cases h

/-- What of a constant: a plain one, or an aggregate of plain ones. -/
def ofConst : Value → Option AV
  | .agg cs => (ofVals cs.toList).map .agg
  | .tuple cs => (ofVals cs.toList).map .tup
  | v => ofVal v

theorem ofConst_rel {ρ : Env} {v : Value} {a : AV} (h : ofConst v = some a) : Rel ρ a v := by
  unfold ofConst at h
  split at h
  · simp only [Option.map_eq_some_iff] at h
    obtain ⟨l, h, rfl⟩ := h
    simp only [Rel]
    exact ⟨_, rfl, ofVals_rel h⟩
  · simp only [Option.map_eq_some_iff] at h
    obtain ⟨l, h, rfl⟩ := h
    simp only [Rel]
    exact ⟨_, rfl, ofVals_rel h⟩
  · exact ofVal_rel h

/-- The cells of an abstract value. -/
def AV.cells : AV → List AV
  | .agg l => l
  | v => [v]

/-- An abstract value that is surely the value of one cell. -/
def AV.one : AV → Bool
  | .agg _ => false
  | .tup _ => false
  | .any => false
  | _ => true

theorem Rel.one {ρ : Env} {a : AV} {v : Value} (h : Rel ρ a v) (ha : a.one = true) : v.oneCell' = true := by
  cases a <;> simp only [AV.one, Bool.false_eq_true] at ha <;> simp only [Rel] at h <;>
    first
      | (subst h; rfl)
      | (obtain ⟨_, rfl, _⟩ := h; rfl)
      | (obtain ⟨_, _, rfl, _⟩ := h; rfl)
      | (obtain ⟨_, _, _, rfl⟩ := h; rfl)
      | (obtain ⟨_, _, _, _, rfl⟩ := h; rfl)
      | (obtain ⟨_, _, _, _, _, _, _, _, rfl⟩ := h; rfl)

/-- 'any' may be an aggregate: its cells are not known. -/
def AV.flat : AV → Bool
  | .any => false
  | _ => true

theorem Rel.cells {ρ : Env} {a : AV} {v : Value} (h : Rel ρ a v) (ha : a.flat = true) : RelL ρ a.cells v.cells.toList := by
  cases a <;> simp only [AV.flat, Bool.false_eq_true] at ha <;>
    first
      | (have h' := h; simp only [Rel] at h'
         first
           | (subst h'; exact RelL.cons h RelL.nil)
           | (obtain ⟨_, rfl, _⟩ := h'; exact RelL.cons h RelL.nil)
           | (obtain ⟨_, _, rfl, _⟩ := h'; exact RelL.cons h RelL.nil)
           | (obtain ⟨_, _, _, rfl⟩ := h'; exact RelL.cons h RelL.nil)
           | (obtain ⟨_, _, _, _, rfl⟩ := h'; exact RelL.cons h RelL.nil)
           | (obtain ⟨_, _, _, _, _, _, _, _, rfl⟩ := h'; exact RelL.cons h RelL.nil)
           | (obtain ⟨cs, rfl, h'⟩ := h'; exact h'))
end Go.Abs

namespace Go.Abs

/-- What a type's equality is, for what we have. -/
inductive EqK where
  | no
  | bool
  | slice
  | ptr
  | fn

/-- Operands. -/
inductive AX where
  | t (p : Pos)
  | c (v : AV)

/-- The kinds of a map's keys. -/
inductive KD where
  | str
  | bool
  | int (k : IntKind)

/-- Further operations: a new slice of a length and a capacity; a new map, what it has, its being written; a range over a string, its next step; is an interface value nil? an empty slice that is not nil. -/
inductive XOp where
  | mksz (n b : Nat) (z : List AV)
  | mkmap
  | look (kd : KD) (z : AV) (ok : Bool)
  | mset (kd : KD)
  | iter
  | next
  | ifnil (b : Bool)
  | sl0 (n : Nat)

/-- Operations, their types resolved. -/
inductive AOp where
  | mov (x : AX)
  | pick (c a b : AX)
  | new (z : List AV)
  | box (x : AX)
  | build (z : List AV) (parts : List (Nat × Nat × AX))
  | mksl (z : List AV) (len es : Nat) (parts : List (Nat × Nat × AX))
  | load (ag : Bool) (n : Nat) (a : AX)
  | store (n : Nat) (a x : AX)
  | nilchk (x : AX)
  | bin (op : BinOp) (ek : EqK) (ks : List Nat) (x y : AX)
  | un (op : UnOp) (x : AX)
  | cvi (k : IntKind) (x : AX)
  | cvs (x : AX)
  | s2b (x : AX)
  | b2s (x : AX)
  | mkif (t : TypeId) (x : AX)
  | mkfn (f : Fn) (fs cs : List AX)
  | slS (size : Nat) (x : AX) (lo hi : Option AX)
  | slStr (x : AX) (lo hi : Option AX)
  | slA (len size : Nat) (x : AX) (lo hi : Option AX)
  | fadr (off : Nat) (x : AX)
  | fld (ag : Bool) (off n : Nat) (x : AX)
  | ixS (size : Nat) (x ix : AX)
  | ixA (len size : Nat) (x ix : AX)
  | ixv (ag : Bool) (len n : Nat) (x ix : AX)
  | ixstr (x ix : AX)
  | extr (i : Nat) (x : AX)
  | call (g : AX) (args : List AX)
  | len (k : Nat) (x : AX)
  | cap (x : AX)
  | app (size bytes : Nat) (s x : AX)
  | copy (size : Nat) (str : Bool) (d s : AX)
  | ext (q : XOp) (args : List AX)
  | bad

/-- An operation in its place: where its value goes; under which test it is carried out. -/
structure AOper where
  dst : Option Pos
  guard : Option (Pos × Bool)
  op : AOp

/-- Code. 'reg': in the order of the text. 'drw': the order is open: the operations in a chosen order; of each its sort (0: touches no memory, 1: reads, 2: a new block, 3: all else), how many of the states before must be looked at, too. -/
inductive AC where
  | skip
  | reg (ops : List AOper)
  | drw (ops : List (Nat × Nat × AOper))
  | seq (a b : AC)
  | cond (x : AX) (a b : AC)
  | block (id : Nat) (a : AC)
  | loop (a : AC)
  | rng (f : AX) (params : List Pos) (asg body : AC)
  | exit (id : Nat)
  | ret
  | bad

/-- A block: cells (of the call's own, or for reading alone); a range over a function: whether it is ready, the jump that is pending (some none: a return), the temporaries at its head, its code; the block of the deferred calls of such a range. -/
inductive Blk where
  | cells (ro : Bool) (l : List AV)
  | loop (ready : Bool) (pend : Option (Option Nat)) (T : PT AV) (params : List Pos) (asg body : AC)
  | dfr
  | mp (es : List (AV × AV))
  | sit (l : List Nat) (pos : Nat)

def Blk.ro : Blk → Bool
  | .cells b _ => b
  | _ => false

abbrev AHeap := PT Blk

def takeN : Nat → List AV → Option (List AV)
  | 0, _ => some []
  | _ + 1, [] => none
  | n + 1, a :: l => match takeN n l with
    | some r => some (a :: r)
    | none => none

def putL : Nat → List AV → List AV → Option (List AV)
  | 0, [], l => some l
  | 0, _ :: _, [] => none
  | 0, x :: xs, _ :: l => match putL 0 xs l with
    | some r => some (x :: r)
    | none => none
  | _ + 1, _, [] => none
  | n + 1, xs, a :: l => match putL n xs l with
    | some r => some (a :: r)
    | none => none

theorem takeN_spec : ∀ {n : Nat} {l r : List AV}, takeN n l = some r → r = l.take n ∧ r.length = n
  | 0, l, r, h => by simp [takeN] at h; subst h; simp
  | n + 1, [], r, h => by simp [takeN] at h
  | n + 1, a :: l, r, h => by
    simp only [takeN] at h
    split at h
    · rename_i q hq
      have := takeN_spec hq
      simp at h; subst h
      simp [this.1]
      have := this.2
      rw [(takeN_spec hq).1] at this
      simpa using this
    · cases h

theorem putL_spec : ∀ {n : Nat} {xs l r : List AV}, putL n xs l = some r →
    r.length = l.length ∧ n + xs.length ≤ l.length ∧ ∀ i, r[i]? = if n ≤ i ∧ i < n + xs.length then xs[i - n]? else l[i]?
  | 0, [], l, r, h => by simp [putL] at h; subst h; refine ⟨rfl, by simp, fun i => ?_⟩; rw [if_neg (by simp)]
  | 0, x :: xs, [], r, h => by simp [putL] at h
  | 0, x :: xs, a :: l, r, h => by
    simp only [putL] at h
    split at h
    · rename_i q hq
      have := putL_spec hq
      simp at h; subst h
      refine ⟨by simp [this.1], by have := this.2.1; simp at this ⊢; omega, ?_⟩
      intro i
      cases i with
      | zero => simp
      | succ i =>
        have := this.2.2 i
        simp at this ⊢
        rw [this]
    · cases h
  | n + 1, xs, [], r, h => by simp [putL] at h
  | n + 1, xs, a :: l, r, h => by
    simp only [putL] at h
    split at h
    · rename_i q hq
      have := putL_spec hq
      simp at h; subst h
      refine ⟨by simp [this.1], by have := this.2.1; simp; omega, ?_⟩
      intro i
      cases i with
      | zero => simp
      | succ i =>
        have := this.2.2 i
        simp at this ⊢
        rw [this]
        by_cases hi : n ≤ i ∧ i < n + xs.length
        · rw [if_pos hi, if_pos (by omega)]
        · rw [if_neg hi, if_neg (by omega)]
    · cases h

/-- What stays the same in a run: the first block of the call's own; what it is for abstract code to be made from the model's, in a frame of so many temporaries. -/
structure Base where
  n : Nat
  old : Array Obj
  cr : Nat → Code → AC → Prop

/-- The call's own blocks lie from B on; those for reading alone below. -/
structure Side (B : Base) (ro : Bool) (b : Nat) : Prop where
  own : ro = false → B.n ≤ b
  old : ro = true → b < B.n

def evT (T : PT AV) (p : Pos) : AV := match PT.get p T with
  | some v => v
  | none => .tup []

/-- The temporaries. -/
def RelA (ρ : Env) (T : PT AV) (tmps : Array Value) : Prop := ∀ t, Rel ρ (evT T (Pos.ofNat t)) (tmps.getD t undef)

theorem RelA.mono {ρ ρ' : Env} (h : ρ.le ρ') {T : PT AV} {tmps : Array Value} (r : RelA ρ T tmps) : RelA ρ' T tmps := fun t => (r t).mono h

def jmp : Option Nat → Code
  | none => .ret
  | some i => .exit i

def stOf : Bool → Option (Option Nat) → LoopState
  | true, _ => .ready
  | false, none => .busy
  | false, some _ => .done

structure LoopOK (B : Base) (ρ : Env) (r : Loop) (rdy : Bool) (pend : Option (Option Nat)) (T : PT AV) (ps : List Pos) (ag bd : AC) : Prop where
  state : r.state = stOf rdy pend
  pending : r.pending = pend.map jmp
  tmps : RelA ρ T r.tmps
  params : r.params.toList.map Pos.ofNat = ps
  inside : ∀ p ∈ r.params.toList, p < r.tmps.size
  assign : B.cr r.tmps.size r.assign ag
  body : B.cr r.tmps.size r.body bd

/-- A map's entries. -/
def RelE (ρ : Env) : List (AV × AV) → List MapEntry → Prop
  | [], vs => vs = []
  | a :: l, vs => ∃ e vs', vs = e :: vs' ∧ Rel ρ a.1 e.key ∧ Rel ρ a.2 e.val ∧ RelE ρ l vs'

theorem RelE.mono {ρ ρ' : Env} (h : ρ.le ρ') : ∀ {l : List (AV × AV)} {vs : List MapEntry}, RelE ρ l vs → RelE ρ' l vs
  | [], _, r => r
  | a :: l, _, r => by
    obtain ⟨e, vs', q1, q2, q3, q4⟩ := r
    exact ⟨e, vs', q1, q2.mono h, q3.mono h, RelE.mono h q4⟩

/-- What a block that is no cells is. -/
def ObjOK (B : Base) (ρ : Env) : Blk → Obj → Prop
  | .cells _ _, _ => True
  | .loop rdy pend T ps ag bd, o => ∃ r, o = .loop r ∧ LoopOK B ρ r rdy pend T ps ag bd
  | .dfr, o => o = .deferred (some [])
  | .mp es, o => ∃ (arr : Array MapEntry) (clock : Nat), o = .map arr clock ∧ RelE ρ es arr.toList
  | .sit l pos, o => ∃ s : ByteArray, o = .stringIter s pos ∧ s.data.toList.map UInt8.toNat = l

theorem ObjOK.mono {B : Base} {ρ ρ' : Env} (h : ρ.le ρ') {k : Blk} {o : Obj} (r : ObjOK B ρ k o) : ObjOK B ρ' k o := by
  cases k with
  | cells ro l => trivial
  | loop rdy pend T ps ag bd =>
    obtain ⟨r, e, q⟩ := r
    exact ⟨r, e, ⟨q.state, q.pending, q.tmps.mono h, q.params, q.inside, q.assign, q.body⟩⟩
  | dfr => exact r
  | mp es =>
    obtain ⟨arr, clock, e, q⟩ := r
    exact ⟨arr, clock, e, q.mono h⟩
  | sit l pos => exact r

def Blk.isCells : Blk → Bool
  | .cells _ _ => true
  | _ => false

/-- What the abstract heap says of a world. B: the blocks below it were there before, and are never written. -/
structure Sim (B : Base) (ρ : Env) (H : AHeap) (w : World) : Prop where
  base : B.n ≤ w.heap.size
  cells : ∀ id ro l, PT.get id H = some (.cells ro l) → ∃ b o m, ρ id = some (b, o, m) ∧ b < w.heap.size ∧ Side B ro b ∧
    (∀ i v, l[i]? = some v → ∃ c, w.cell? ⟨b, o + i, none⟩ = some c ∧ Rel ρ v c) ∧ l.length ≤ m ∧
    (ro = false → ∀ i, i < m → (w.cell? ⟨b, o + i, none⟩).isSome = true ∧ w.frozen? ⟨b, o + i, none⟩ = false)
  objs : ∀ id k, PT.get id H = some k → k.isCells = false → ∃ b m o, ρ id = some (b, 0, m) ∧ B.n ≤ b ∧ w.heap[b]? = some o ∧ ObjOK B ρ k o
  inj : ∀ i j x y b o p, PT.get i H = some x → PT.get j H = some y → i ≠ j → ρ i = some (b, o) → ρ j = some (b, p) → False
  low : ∀ b, b < B.n → w.heap[b]? = B.old[b]?

/-- The blocks that may be written. -/
def Own (ρ : Env) (H : AHeap) (b : Nat) : Prop := ∃ id k o, PT.get id H = some k ∧ k.ro = false ∧ ρ id = some (b, o)

/-- What a step does. -/
structure Step (ρ : Env) (H : AHeap) (nx : Pos) (w : World) (ρ' : Env) (H' : AHeap) (nx' : Pos) (w' : World) : Prop where
  ext : ρ.le ρ'
  fresh : ∀ id, ρ id = none → ρ' id ≠ none → nx.toNat ≤ id.toNat ∧ id.toNat < nx'.toNat
  size : w.heap.size ≤ w'.heap.size
  os : w'.os = w.os
  tape : w'.tape = w.tape
  output : w'.output = w.output
  frame : ∀ b, b < w.heap.size → ¬ Own ρ H b → w'.heap[b]? = w.heap[b]?
  orig : ∀ b, Own ρ' H' b → b < w.heap.size → Own ρ H b
  dom : ∀ id k, PT.get id H' = some k → (∃ k0, PT.get id H = some k0) ∨ (nx.toNat ≤ id.toNat ∧ id.toNat < nx'.toNat)

theorem Step.refl (ρ : Env) (H : AHeap) (nx : Pos) (w : World) : Step ρ H nx w ρ H nx w :=
  ⟨Env.le_refl _, fun _ h k => absurd h k, Nat.le_refl _, rfl, rfl, rfl, fun _ _ _ => rfl, fun _ h _ => h, fun _ _ h => .inl ⟨_, h⟩⟩

theorem Step.trans {ρ ρ1 ρ2 : Env} {H H1 H2 : AHeap} {nx nx1 nx2 : Pos} {w w1 w2 : World} (h : Step ρ H nx w ρ1 H1 nx1 w1) (k : Step ρ1 H1 nx1 w1 ρ2 H2 nx2 w2)
    (l1 : nx.toNat ≤ nx1.toNat) (l2 : nx1.toNat ≤ nx2.toNat) : Step ρ H nx w ρ2 H2 nx2 w2 where
  ext := Env.le_trans h.ext k.ext
  fresh := fun id e e2 => by
    by_cases e1 : ρ1 id = none
    · have := k.fresh id e1 e2; omega
    · have := h.fresh id e e1; omega
  size := Nat.le_trans h.size k.size
  os := k.os.trans h.os
  tape := k.tape.trans h.tape
  output := k.output.trans h.output
  frame := fun b hb ho => by
    rw [k.frame b (Nat.lt_of_lt_of_le hb h.size) (fun o => ho (h.orig b o hb))]
    exact h.frame b hb ho
  orig := fun b o hb => h.orig b (k.orig b o (Nat.lt_of_lt_of_le hb h.size)) hb
  dom := fun id b e => by
    rcases k.dom id b e with ⟨k0, e1⟩ | q
    · rcases h.dom id k0 e1 with q | q
      · exact .inl q
      · exact .inr ⟨q.1, by omega⟩
    · exact .inr ⟨by omega, q.2⟩

/-- None of the names from nx to nx' is in use. -/
def Fresh (ρ : Env) (nx nx' : Pos) : Prop := ∀ id, nx.toNat ≤ id.toNat → id.toNat < nx'.toNat → ρ id = none

theorem Fresh.fst {ρ : Env} {nx nx1 nx2 : Pos} (h : Fresh ρ nx nx2) (l : nx1.toNat ≤ nx2.toNat) : Fresh ρ nx nx1 := fun id a b => h id a (by omega)

theorem Fresh.snd {ρ ρ1 : Env} {H H1 : AHeap} {nx nx1 nx2 : Pos} {w w1 : World} (h : Fresh ρ nx nx2) (s : Step ρ H nx w ρ1 H1 nx1 w1) (l : nx.toNat ≤ nx1.toNat) : Fresh ρ1 nx1 nx2 := fun id a b => by
  have e := h id (by omega) b
  by_cases e1 : ρ1 id = none
  · exact e1
  · have := s.fresh id e e1; omega
end Go.Abs

namespace Go.Abs

def Env.set (ρ : Env) (id : Pos) (x : Nat × Nat × Nat) : Env := fun j => if j.toNat = id.toNat then some x else ρ j

theorem Env.set_same (ρ : Env) (id : Pos) (x : Nat × Nat × Nat) : ρ.set id x id = some x := by simp [Env.set]
theorem Env.set_other (ρ : Env) {id j : Pos} (x : Nat × Nat × Nat) (h : j ≠ id) : ρ.set id x j = ρ j := by
  unfold Env.set
  rw [if_neg (fun e => h (Pos.toNat_inj e))]
theorem Env.set_le {ρ : Env} {id : Pos} {x : Nat × Nat × Nat} (h : ρ id = none) : ρ.le (ρ.set id x) := fun j y e => by
  have hj : j ≠ id := fun k => by subst k; rw [h] at e; cases e
  rw [Env.set_other _ _ hj, e]

theorem Sim.drew {B : Base} {ρ : Env} {H : AHeap} {w : World} (h : Sim B ρ H w) : Sim B ρ H w.drew := ⟨h.base, h.cells, h.objs, h.inj, h.low⟩

theorem Step.drew {ρ ρ' : Env} {H H' : AHeap} {nx nx' : Pos} {w w' : World} (h : Step ρ H nx w ρ' H' nx' w') : Step ρ H nx w ρ' H' nx' w'.drew :=
  ⟨h.ext, h.fresh, h.size, h.os, h.tape, h.output, h.frame, h.orig, h.dom⟩

theorem Step.of_drew {ρ ρ' : Env} {H H' : AHeap} {nx nx' : Pos} {w w' : World} (h : Step ρ H nx w.drew ρ' H' nx' w') : Step ρ H nx w ρ' H' nx' w' :=
  ⟨h.ext, h.fresh, h.size, h.os, h.tape, h.output, h.frame, h.orig, h.dom⟩

theorem heap_alloc_lt (w : World) (o : Obj) {k : Nat} (h : k < w.heap.size) : (w.alloc o).heap[k]? = w.heap[k]? := by
  simp only [World.alloc, Array.getElem?_push]
  rw [if_neg (by omega)]

theorem frozen?_alloc_lt (w : World) (o : Obj) (a : Addr) (h : a.block < w.heap.size) : (w.alloc o).frozen? a = w.frozen? a :=
  World.frozen?_alloc_old w o a (Nat.ne_of_lt h)

/-- A world with one more block: the abstract heap need not speak of it. -/
theorem Sim.more {B : Base} {ρ : Env} {H : AHeap} {w : World} (h : Sim B ρ H w) (o : Obj) : Sim B ρ H (w.alloc o) where
  base := by simp; have := h.base; omega
  cells := fun id ro l e => by
    obtain ⟨b, of, m, e1, e2, e3, e4, e5, e6⟩ := h.cells id ro l e
    refine ⟨b, of, m, e1, by simp; omega, e3, fun i v hv => ?_, e5, fun hro i hi => ?_⟩
    · rw [World.cell?_alloc_lt _ _ _ (by exact e2)]; exact e4 i v hv
    · rw [World.cell?_alloc_lt _ _ _ (by exact e2), frozen?_alloc_lt _ _ _ (by exact e2)]; exact e6 hro i hi
  objs := fun id k e hk => by
    obtain ⟨b, m, ob, e1, e2, e3, e4⟩ := h.objs id k e hk
    refine ⟨b, m, ob, e1, e2, ?_, e4⟩
    have hb : b < w.heap.size := by
      rcases Nat.lt_or_ge b w.heap.size with q | q
      · exact q
      · rw [Array.getElem?_eq_none q] at e3; cases e3
    rw [heap_alloc_lt _ _ hb]; exact e3
  inj := h.inj
  low := fun b hb => by rw [heap_alloc_lt _ _ (Nat.lt_of_lt_of_le hb h.base)]; exact h.low b hb

theorem Sim.blk_lt {B : Base} {ρ : Env} {H : AHeap} {w : World} (h : Sim B ρ H w) {id : Pos} {k : Blk} {b : Nat} {o : Nat × Nat} (e : PT.get id H = some k) (r : ρ id = some (b, o)) : b < w.heap.size := by
  cases hk : k.isCells with
  | true =>
    cases k with
    | cells ro l =>
      obtain ⟨b', o', m', e1, e2, _⟩ := h.cells id ro l e
      rw [r] at e1; cases e1; exact e2
    | loop => cases hk
    | dfr => cases hk
    | mp => cases hk
    | sit => cases hk
  | false =>
    obtain ⟨b', m', ob, e1, _, e3, _⟩ := h.objs id k e hk
    rw [r] at e1; cases e1
    rcases Nat.lt_or_ge b w.heap.size with q | q
    · exact q
    · rw [Array.getElem?_eq_none q] at e3; cases e3

theorem Sim.mapped {B : Base} {ρ : Env} {H : AHeap} {w : World} (h : Sim B ρ H w) {id : Pos} {k : Blk} (e : PT.get id H = some k) : ∃ b o, ρ id = some (b, o) := by
  cases hk : k.isCells with
  | true =>
    cases k with
    | cells ro l =>
      obtain ⟨b', o', m', e1, e2, _⟩ := h.cells id ro l e
      exact ⟨_, _, e1⟩
    | loop => cases hk
    | dfr => cases hk
    | mp => cases hk
    | sit => cases hk
  | false =>
    obtain ⟨b', m', ob, e1, _, e3, _⟩ := h.objs id k e hk
    exact ⟨_, _, e1⟩

/-- The environment may grow at names that the heap does not use. -/
theorem Sim.env {B : Base} {ρ ρ' : Env} {H : AHeap} {w : World} (h : Sim B ρ H w) (hl : ρ.le ρ') : Sim B ρ' H w where
  base := h.base
  cells := fun id ro l e => by
    obtain ⟨b, of, m, e1, e2, e3, e4, e5, e6⟩ := h.cells id ro l e
    refine ⟨b, of, m, hl _ _ e1, e2, e3, fun i v hv => ?_, e5, e6⟩
    obtain ⟨c, hc, hr⟩ := e4 i v hv
    exact ⟨c, hc, hr.mono hl⟩
  objs := fun id k e hk => by
    obtain ⟨b, m, ob, e1, e2, e3, e4⟩ := h.objs id k e hk
    exact ⟨b, m, ob, hl _ _ e1, e2, e3, e4.mono hl⟩
  inj := fun i j x y b o p hi hj hne r1 r2 => by
    obtain ⟨bi, oi, ei⟩ := h.mapped hi
    obtain ⟨bj, oj, ej⟩ := h.mapped hj
    have a1 := hl _ _ ei; rw [r1] at a1; cases a1
    have a2 := hl _ _ ej; rw [r2] at a2; cases a2
    exact h.inj i j x y _ _ _ hi hj hne ei ej
  low := h.low

/-- A block is forgotten. -/
theorem Sim.drop {B : Base} {ρ : Env} {H : AHeap} {w : World} (h : Sim B ρ H w) (id : Pos) : Sim B ρ (PT.put id none H) w where
  base := h.base
  cells := fun j ro l e => by
    by_cases hj : j = id
    · subst hj; rw [PT.get_put_same] at e; cases e
    · rw [PT.get_put_other _ _ _ _ hj] at e; exact h.cells j ro l e
  objs := fun j k e hk => by
    by_cases hj : j = id
    · subst hj; rw [PT.get_put_same] at e; cases e
    · rw [PT.get_put_other _ _ _ _ hj] at e; exact h.objs j k e hk
  inj := fun i j x y b o p hi hj hne r1 r2 => by
    by_cases ei : i = id
    · subst ei; rw [PT.get_put_same] at hi; cases hi
    · by_cases ej : j = id
      · subst ej; rw [PT.get_put_same] at hj; cases hj
      · rw [PT.get_put_other _ _ _ _ ei] at hi; rw [PT.get_put_other _ _ _ _ ej] at hj
        exact h.inj i j x y b o p hi hj hne r1 r2
  low := h.low

theorem Own.of_drop {ρ : Env} {H : AHeap} {id : Pos} {b : Nat} (h : Own ρ (PT.put id none H) b) : Own ρ H b := by
  obtain ⟨j, k, o, e1, e2, e3⟩ := h
  by_cases hj : j = id
  · subst hj; rw [PT.get_put_same] at e1; cases e1
  · rw [PT.get_put_other _ _ _ _ hj] at e1; exact ⟨j, k, o, e1, e2, e3⟩

/-- A new block of cells, under a new name. -/
theorem Sim.alloc {B : Base} {ρ : Env} {H : AHeap} {w : World} {nx : Pos} {l : List AV} {cs : List Value} (h : Sim B ρ H w) (hn : ρ nx = none) (hl : RelL ρ l cs) (e : TypeId) (zs : List Value) (fr : Nat × Nat := (0, 0))
    (hfr : ∀ i, i < (cs ++ zs).length → (decide (fr.1 ≤ i) && decide (i < fr.2)) = false := by intro i _; simp) :
    Sim B (ρ.set nx (w.heap.size, 0, (cs ++ zs).length)) (PT.put nx (some (.cells false l)) H) (w.alloc (.cells (cs ++ zs).toArray e fr)) := by
  have hle : ρ.le (ρ.set nx (w.heap.size, 0, (cs ++ zs).length)) := Env.set_le hn
  have hm := (h.more (.cells (cs ++ zs).toArray e fr)).env hle
  have hcell : ∀ i, (w.alloc (.cells (cs ++ zs).toArray e fr)).cell? ⟨w.heap.size, i, none⟩ = (cs ++ zs)[i]? := fun i => by simp [World.alloc, World.cell?, -World.alloc_eq]
  have hfro : ∀ i, (w.alloc (.cells (cs ++ zs).toArray e fr)).frozen? ⟨w.heap.size, i, none⟩ = (decide (fr.1 ≤ i) && decide (i < fr.2)) := fun i => by simp [World.alloc, World.frozen?, -World.alloc_eq]
  refine ⟨hm.base, fun id ro l' e1 => ?_, fun id k e1 hk => ?_, fun i j x y b o p hi hj hne r1 r2 => ?_, hm.low⟩
  · by_cases hid : id = nx
    · subst hid
      rw [PT.get_put_same] at e1
      cases e1
      refine ⟨w.heap.size, 0, _, Env.set_same _ _ _, by simp, ⟨fun _ => h.base, fun q => by cases q⟩, fun i v hv => ?_, by rw [hl.length]; simp, fun _ i hi => ⟨?_, ?_⟩⟩
      · obtain ⟨c, hc, hr⟩ := hl.get hv
        refine ⟨c, ?_, hr.mono hle⟩
        rw [Nat.zero_add, hcell]
        have hi : i < cs.length := by
          rcases Nat.lt_or_ge i cs.length with q | q
          · exact q
          · rw [List.getElem?_eq_none q] at hc; cases hc
        simp [List.getElem?_append, hi]
        rw [List.getElem?_eq_getElem hi] at hc
        simpa using hc
      · rw [Nat.zero_add, hcell, List.getElem?_eq_getElem hi]; rfl
      · rw [Nat.zero_add, hfro]; exact hfr i hi
    · rw [PT.get_put_other _ _ _ _ hid] at e1
      exact hm.cells id ro l' e1
  · by_cases hid : id = nx
    · subst hid; rw [PT.get_put_same] at e1; cases e1; cases hk
    · rw [PT.get_put_other _ _ _ _ hid] at e1; exact hm.objs _ _ e1 hk
  · by_cases hi' : i = nx
    · subst hi'
      rw [Env.set_same] at r1; cases r1
      have hj' : j ≠ i := fun q => hne q.symm
      rw [PT.get_put_other _ _ _ _ hj'] at hj
      rw [Env.set_other _ _ hj'] at r2
      have := h.blk_lt hj r2
      omega
    · rw [PT.get_put_other _ _ _ _ hi'] at hi
      rw [Env.set_other _ _ hi'] at r1
      by_cases hj' : j = nx
      · subst hj'
        rw [Env.set_same] at r2; cases r2
        have := h.blk_lt hi r1
        omega
      · rw [PT.get_put_other _ _ _ _ hj'] at hj
        rw [Env.set_other _ _ hj'] at r2
        exact h.inj i j x y b o p hi hj hne r1 r2

theorem Step.alloc {ρ : Env} {H : AHeap} {w : World} {nx : Pos} (hn : ρ nx = none) (k : Blk) (o : Obj) (m : Nat × Nat) :
    Step ρ H nx w (ρ.set nx (w.heap.size, m)) (PT.put nx (some k) H) nx.succ (w.alloc o) where
  ext := Env.set_le hn
  fresh := fun id e1 e2 => by
    by_cases hid : id = nx
    · subst hid; rw [Pos.toNat_succ]; omega
    · rw [Env.set_other _ _ hid] at e2; exact absurd e1 e2
  size := by simp
  os := rfl
  tape := rfl
  output := rfl
  frame := fun b hb _ => heap_alloc_lt _ _ hb
  orig := fun b ho hb => by
    obtain ⟨id, k', o', e1, e2, e3⟩ := ho
    by_cases hid : id = nx
    · subst hid; rw [Env.set_same] at e3; cases e3; omega
    · rw [PT.get_put_other _ _ _ _ hid] at e1
      rw [Env.set_other _ _ hid] at e3
      exact ⟨id, k', o', e1, e2, e3⟩
  dom := fun id k' e => by
    by_cases hid : id = nx
    · subst hid; exact .inr ⟨Nat.le_refl _, by rw [Pos.toNat_succ]; omega⟩
    · rw [PT.get_put_other _ _ _ _ hid] at e; exact .inl ⟨_, e⟩

/-- Loading cells. -/
theorem Sim.load {B : Base} {ρ : Env} {H : AHeap} {w : World} (h : Sim B ρ H w) {id : Pos} {ro : Bool} {l vs : List AV} {n off b o m : Nat} (e : PT.get id H = some (.cells ro l))
    (r : ρ id = some (b, o, m)) (t : takeN n (l.drop off) = some vs) :
    ∃ cs : List Value, cs.length = n ∧ RelL ρ vs cs ∧ ∀ j v, cs[j]? = some v → w.cell? ((⟨b, o + off, none⟩ : Addr).add j) = some v := by
  obtain ⟨b', o', m', e1, e2, e3, e4, _⟩ := h.cells id ro l e
  rw [r] at e1; cases e1
  obtain ⟨t1, t2⟩ := takeN_spec t
  have hk : ∀ j, j < n → ∃ a, l[off + j]? = some a ∧ vs[j]? = some a := by
    intro j hj
    have : j < vs.length := by omega
    refine ⟨vs[j], ?_, by simp [this]⟩
    have q : vs[j]? = some vs[j] := by simp [this]
    generalize vs[j] = z at q ⊢
    rw [t1, List.getElem?_take_of_lt hj, List.getElem?_drop] at q
    exact q
  have key : ∀ (m k : Nat), k + m ≤ n → ∃ cs : List Value, cs.length = m ∧ (∀ j, j < m → ∃ a c, vs[k + j]? = some a ∧ cs[j]? = some c ∧ Rel ρ a c ∧ w.cell? ⟨b, o + off + (k + j), none⟩ = some c) := by
    intro m
    induction m with
    | zero => intro k _; exact ⟨[], rfl, fun j hj => by omega⟩
    | succ m ih =>
      intro k hkm
      obtain ⟨cs, hcs, hall⟩ := ih (k + 1) (by omega)
      obtain ⟨a, ha1, ha2⟩ := hk k (by omega)
      obtain ⟨c, hc, hr⟩ := e4 _ _ ha1
      refine ⟨c :: cs, by simp [hcs], fun j hj => ?_⟩
      cases j with
      | zero => exact ⟨a, c, by simpa using ha2, by simp, hr, by rw [Nat.add_zero, Nat.add_assoc]; exact hc⟩
      | succ j =>
        obtain ⟨a', c', q1, q2, q3, q4⟩ := hall j (by omega)
        refine ⟨a', c', ?_, by simpa using q2, q3, ?_⟩
        · rw [← q1]; congr 1; omega
        · rw [← q4]; congr 2; omega
  obtain ⟨cs, hcs, hall⟩ := key n 0 (by omega)
  refine ⟨cs, hcs, RelL.of_get (by omega) ?_, ?_⟩
  · intro i a v ha hv
    have hi : i < n := by
      rcases Nat.lt_or_ge i n with q | q
      · exact q
      · rw [List.getElem?_eq_none (by omega)] at hv; cases hv
    obtain ⟨a', c', q1, q2, q3, q4⟩ := hall i hi
    rw [Nat.zero_add] at q1
    rw [ha] at q1; cases q1
    rw [hv] at q2; cases q2
    exact q3
  · intro j v hv
    have hj : j < n := by
      rcases Nat.lt_or_ge j n with q | q
      · exact q
      · rw [List.getElem?_eq_none (by omega)] at hv; cases hv
    obtain ⟨a', c', q1, q2, q3, q4⟩ := hall j hj
    rw [hv] at q2; cases q2
    rw [Nat.zero_add] at q4
    unfold Addr.add
    split
    · rename_i hz; subst hz; simpa using q4
    · exact q4

/-- The cells of a row, one after another. -/
def setRow (w : World) (b o : Nat) : List Value → World
  | [] => w
  | c :: cs => setRow (w.setCell ⟨b, o, none⟩ c) b (o + 1) cs

theorem setRow_other (b : Nat) : ∀ (cs : List Value) (o : Nat) (w : World) (k : Nat), k ≠ b → (setRow w b o cs).heap[k]? = w.heap[k]?
  | [], _, _, _, _ => rfl
  | c :: cs, o, w, k, h => by
    rw [setRow, setRow_other b cs _ _ k h]
    simp only [World.setCell, Array.getElem?_modify]
    rw [if_neg (by simpa using Ne.symm h)]

theorem setRow_size (b : Nat) : ∀ (cs : List Value) (o : Nat) (w : World), (setRow w b o cs).heap.size = w.heap.size
  | [], _, _ => rfl
  | c :: cs, o, w => by rw [setRow, setRow_size b cs]; simp

theorem setRow_same (b : Nat) : ∀ (cs : List Value) (o : Nat) (w : World), (setRow w b o cs).os = w.os ∧ (setRow w b o cs).tape = w.tape ∧ (setRow w b o cs).output = w.output
  | [], _, _ => ⟨rfl, rfl, rfl⟩
  | c :: cs, o, w => by rw [setRow]; exact setRow_same b cs (o + 1) _

theorem setRow_frozen (b : Nat) (a : Addr) : ∀ (cs : List Value) (o : Nat) (w : World), (setRow w b o cs).frozen? a = w.frozen? a
  | [], _, _ => rfl
  | c :: cs, o, w => by rw [setRow, setRow_frozen b a cs]; simp

theorem setRow_cell (b : Nat) : ∀ (cs : List Value) (o : Nat) (w : World) (i : Nat), (∀ j, j < cs.length → (w.cell? ⟨b, o + j, none⟩).isSome = true) →
    (setRow w b o cs).cell? ⟨b, i, none⟩ = if o ≤ i ∧ i < o + cs.length then cs[i - o]? else w.cell? ⟨b, i, none⟩
  | [], o, w, i, _ => by rw [setRow, if_neg (by simp)]
  | c :: cs, o, w, i, h => by
    have h0 := h 0 (by simp)
    obtain ⟨u, hu⟩ := Option.isSome_iff_exists.1 h0
    rw [Nat.add_zero] at hu
    have hstep : ∀ j, (w.setCell ⟨b, o, none⟩ c).cell? ⟨b, j, none⟩ = if j = o then some c else w.cell? ⟨b, j, none⟩ := by
      intro j
      by_cases hj : j = o
      · subst hj; rw [if_pos rfl]; exact World.cell?_setCell_same _ _ _ hu
      · rw [if_neg hj]; exact World.cell?_setCell_other _ _ _ _ (fun e => hj (by cases e; rfl))
    rw [setRow, setRow_cell b cs (o + 1) _ i]
    · by_cases h1 : o + 1 ≤ i ∧ i < o + 1 + cs.length
      · rw [if_pos h1, if_pos (by simp; omega)]
        rw [show i - o = (i - (o + 1)) + 1 by omega]
        simp
      · rw [if_neg h1, hstep]
        by_cases hi : i = o
        · subst hi; rw [if_pos rfl, if_pos (by simp)]; simp
        · rw [if_neg hi, if_neg (by simp; omega)]
    · intro j hj
      rw [hstep]
      split
      · rfl
      · have := h (j + 1) (by simpa using hj)
        rwa [show o + (j + 1) = o + 1 + j by omega] at this

theorem run_storeCells {P : Program} (b o : Nat) : ∀ (cs : List Value) (i : Nat) (w : World), (∀ j, j < cs.length → (w.cell? ⟨b, o + i + j, none⟩).isSome = true) →
    (∀ j, j < cs.length → w.frozen? ⟨b, o + i + j, none⟩ = false) → (∀ c ∈ cs, c.oneCell' = true) →
    (storeCells ⟨b, o, none⟩ cs i).run P w = .ok () (setRow w b (o + i) cs)
  | [], i, w, _, _, _ => by simp [storeCells, setRow]
  | c :: cs, i, w, h1, h2, h3 => by
    have ha : (⟨b, o, none⟩ : Addr).add i = ⟨b, o + i, none⟩ := by
      unfold Addr.add; split
      · rename_i hz; subst hz; rfl
      · rfl
    have h10 := h1 0 (by simp)
    obtain ⟨u, hu⟩ := Option.isSome_iff_exists.1 h10
    have h20 := h2 0 (by simp)
    rw [Nat.add_zero] at hu h20
    simp only [storeCells, Sem.run_bind, ha]
    rw [run_store P w ⟨b, o + i, none⟩ c .plain (h3 c (by simp))]
    simp only [hu, h20, Bool.false_eq_true, if_false, Result.andThen_ok]
    rw [run_storeCells b o cs (i + 1) (w.setCell ⟨b, o + i, none⟩ c) ?_ ?_ (fun x hx => h3 x (by simp [hx])), setRow]
    · rfl
    · intro j hj
      have := h1 (j + 1) (by simpa using hj)
      rw [show o + i + (j + 1) = o + (i + 1) + j by omega] at this
      rw [World.cell?_setCell_other]
      · exact this
      · intro e; injection e with _ e; omega
    · intro j hj
      have := h2 (j + 1) (by simpa using hj)
      rw [show o + i + (j + 1) = o + (i + 1) + j by omega] at this
      rw [World.frozen?_setCell]; exact this

/-- Writing cells of a block of one's own. -/
theorem Sim.store {B : Base} {ρ : Env} {H : AHeap} {w : World} (h : Sim B ρ H w) {id : Pos} {l l' xs : List AV} {cs : List Value} {off b o m : Nat} (e : PT.get id H = some (.cells false l))
    (r : ρ id = some (b, o, m)) (t : putL off xs l = some l') (hx : RelL ρ xs cs) (h1 : ∀ x ∈ xs, x.one = true) {P : Program} (nx : Pos) :
    (storeCells ⟨b, o + off, none⟩ cs).run P w = .ok () (setRow w b (o + off) cs) ∧ Sim B ρ (PT.put id (some (.cells false l')) H) (setRow w b (o + off) cs) ∧
      Step ρ H nx w ρ (PT.put id (some (.cells false l')) H) nx (setRow w b (o + off) cs) := by
  obtain ⟨b', o', m', e1, e2, e3, e4, e40, e41⟩ := h.cells id false l e
  rw [r] at e1; cases e1
  obtain ⟨t1, t2, t3⟩ := putL_spec t
  have hlen := hx.length
  have hin : ∀ j, j < cs.length → off + j < m := by
    intro j hj
    omega
  have hsome : ∀ j, j < cs.length → (w.cell? ⟨b, o + off + 0 + j, none⟩).isSome = true := by
    intro j hj
    rw [show o + off + 0 + j = o + (off + j) by omega]; exact (e41 rfl _ (hin j hj)).1
  have hfro : ∀ j, j < cs.length → w.frozen? ⟨b, o + off + 0 + j, none⟩ = false := by
    intro j hj
    rw [show o + off + 0 + j = o + (off + j) by omega]; exact (e41 rfl _ (hin j hj)).2
  have hone : ∀ c ∈ cs, c.oneCell' = true := by
    intro c hc
    obtain ⟨i, hi, rfl⟩ := List.mem_iff_getElem.1 hc
    have hix : i < xs.length := by omega
    obtain ⟨v, hv, hr⟩ := hx.get (i := i) (a := xs[i]) (by simp [hix])
    rw [List.getElem?_eq_getElem hi] at hv; cases hv
    exact hr.one (h1 _ (List.getElem_mem hix))
  have hown : Own ρ H b := ⟨id, _, _, e, rfl, r⟩
  refine ⟨?_, ?_, ?_⟩
  · have := run_storeCells (P := P) b (o + off) cs 0 w hsome hfro hone
    simpa using this
  · refine ⟨by rw [setRow_size]; exact h.base, fun j ro l2 e5 => ?_, fun j k e5 hk => ?_, fun i j x y b2 o2 p2 hi hj hne r1 r2 => ?_, fun b2 hb2 => by rw [setRow_other b cs _ w b2 (fun q => by subst q; have := e3.own rfl; omega)]; exact h.low b2 hb2⟩
    · by_cases hj : j = id
      · subst hj
        rw [PT.get_put_same] at e5; cases e5
        refine ⟨b, o, m, r, by rw [setRow_size]; exact e2, e3, fun i v hv => ?_, by omega, fun _ i hi => ?_⟩
        · rw [setRow_cell b cs (o + off) w (o + i) (fun j hj => by simpa using hsome j hj)]
          rw [t3 i] at hv
          by_cases hi : off ≤ i ∧ i < off + xs.length
          · rw [if_pos hi] at hv
            rw [if_pos (by omega), show o + i - (o + off) = i - off by omega]
            exact hx.get hv
          · rw [if_neg hi] at hv
            rw [if_neg (by omega)]
            exact e4 i v hv
        · rw [setRow_frozen, setRow_cell b cs (o + off) w (o + i) (fun j hj => by simpa using hsome j hj)]
          refine ⟨?_, (e41 rfl i hi).2⟩
          split
          · rename_i q
            rw [List.getElem?_eq_getElem (by omega)]; rfl
          · exact (e41 rfl i hi).1
      · rw [PT.get_put_other _ _ _ _ hj] at e5
        obtain ⟨b2, o2, m2, q1, q2, q3, q4, q5, q6⟩ := h.cells j ro l2 e5
        have hb : b2 ≠ b := fun q => by subst q; exact h.inj j id _ _ _ _ _ e5 e hj q1 r
        have hcell : ∀ i, (setRow w b (o + off) cs).cell? ⟨b2, i, none⟩ = w.cell? ⟨b2, i, none⟩ := fun i => by
          unfold World.cell?
          rw [setRow_other b cs _ w b2 hb]
        refine ⟨b2, o2, m2, q1, by rw [setRow_size]; exact q2, q3, fun i v hv => ?_, q5, fun hro i hi => ?_⟩
        · rw [hcell]; exact q4 i v hv
        · rw [hcell, setRow_frozen]; exact q6 hro i hi
    · by_cases hj : j = id
      · subst hj; rw [PT.get_put_same] at e5; cases e5; cases hk
      · rw [PT.get_put_other _ _ _ _ hj] at e5
        obtain ⟨b2, m2, ob, q1, q2, q3, q4⟩ := h.objs j k e5 hk
        have hb : b2 ≠ b := fun q => by subst q; exact h.inj j id _ _ _ _ _ e5 e hj q1 r
        exact ⟨b2, m2, ob, q1, q2, by rw [setRow_other b cs _ w b2 hb]; exact q3, q4⟩
    · have f : ∀ (m : Pos) (z : Blk), PT.get m (PT.put id (some (.cells false l')) H) = some z → ∃ z', PT.get m H = some z' := by
        intro m z hz
        by_cases hm : m = id
        · subst hm; exact ⟨_, e⟩
        · rw [PT.get_put_other _ _ _ _ hm] at hz; exact ⟨_, hz⟩
      obtain ⟨x', hx'⟩ := f i x hi
      obtain ⟨y', hy'⟩ := f j y hj
      exact h.inj i j x' y' b2 o2 p2 hx' hy' hne r1 r2
  · obtain ⟨s1, s2, s3⟩ := setRow_same b cs (o + off) w
    refine ⟨Env.le_refl _, fun _ q1 q2 => absurd q1 q2, by rw [setRow_size]; exact Nat.le_refl _, s1, s2, s3, fun k hk ho => ?_, fun k ho hk => ?_, fun k z hz => ?_⟩
    · exact setRow_other b cs _ w k (fun q => by subst q; exact ho hown)
    · obtain ⟨j, k', o', q1, q2, q3⟩ := ho
      by_cases hj : j = id
      · subst hj; rw [r] at q3; cases q3; exact hown
      · rw [PT.get_put_other _ _ _ _ hj] at q1; exact ⟨j, k', o', q1, q2, q3⟩
    · by_cases hk : k = id
      · subst hk; exact .inl ⟨_, e⟩
      · rw [PT.get_put_other _ _ _ _ hk] at hz; exact .inl ⟨_, hz⟩
end Go.Abs
