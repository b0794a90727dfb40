/- Texts put together: GlB GlC LaC LaE GlP GlD LaG. Own work. -/
import Derived.Test.YtpeplakhcgaajaaMgar
/- The curve's points over numbers of their own: sums with four numbers and with three, multiples bit by bit; the ladder's steps. Own work; no program in sight. -/
namespace Go.Sp
section
variable {n : Nat} [NeZero n] {C : Cv n}
structure Rep4 (P : Pt C) (X Y Z T : Fin n) : Prop where
  z : Z ≠ 0
  hx : X = P.x * Z
  hy : Y = P.y * Z
  ht : T = P.x * P.y * Z
theorem m_assoc (a b c : Fin n) : a * b * c = a * (b * c) := by grind
theorem r4_EG (x1 y1 z1 x2 y2 z2 d u A : Fin n) (hA : A = 1 + d*(x1*x2*(y1*y2))) (hu : u * A = x1*y2 + y1*x2) :
    (y1*z1 + x1*z1)*(y2*z2 + x2*z2) - (y1*z1 - x1*z1)*(y2*z2 - x2*z2) = u * (z1*(z2+z2) + x1*y1*z1*((d+d)*(x2*y2*z2))) := by
  subst hA
  grind
theorem r4_HF (x1 y1 z1 x2 y2 z2 d v B : Fin n) (hB : B = 1 - d*(x1*x2*(y1*y2))) (hv : v * B = y1*y2 + x1*x2) :
    (y1*z1 + x1*z1)*(y2*z2 + x2*z2) + (y1*z1 - x1*z1)*(y2*z2 - x2*z2) = v * (z1*(z2+z2) - x1*y1*z1*((d+d)*(x2*y2*z2))) := by
  subst hB
  grind
theorem r4_F (x1 y1 z1 x2 y2 z2 d : Fin n) : z1*(z2+z2) - x1*y1*z1*((d+d)*(x2*y2*z2)) = 2*(z1*z2)*(1 - d*(x1*x2*(y1*y2))) := by grind
theorem r4_G (x1 y1 z1 x2 y2 z2 d : Fin n) : z1*(z2+z2) + x1*y1*z1*((d+d)*(x2*y2*z2)) = 2*(z1*z2)*(1 + d*(x1*x2*(y1*y2))) := by grind
theorem r4_fin (u v F G : Fin n) : u*G*F = u*(F*G) ∧ G*(v*F) = v*(F*G) ∧ u*G*(v*F) = u*v*(F*G) := by grind
theorem Rep4.add {P Q : Pt C} {X1 Y1 Z1 T1 X2 Y2 Z2 T2 : Fin n} (h1 : Rep4 P X1 Y1 Z1 T1) (h2 : Rep4 Q X2 Y2 Z2 T2) :
    Rep4 (P.add Q) (((Y1 + X1)*(Y2 + X2) - (Y1 - X1)*(Y2 - X2)) * (Z1*(Z2+Z2) - T1*((C.d+C.d)*T2))) ((Z1*(Z2+Z2) + T1*((C.d+C.d)*T2)) * ((Y1 + X1)*(Y2 + X2) + (Y1 - X1)*(Y2 - X2)))
      ((Z1*(Z2+Z2) - T1*((C.d+C.d)*T2)) * (Z1*(Z2+Z2) + T1*((C.d+C.d)*T2))) (((Y1 + X1)*(Y2 + X2) - (Y1 - X1)*(Y2 - X2)) * ((Y1 + X1)*(Y2 + X2) + (Y1 - X1)*(Y2 - X2))) := by
  obtain ⟨z1, rfl, rfl, rfl⟩ := h1
  obtain ⟨z2, rfl, rfl, rfl⟩ := h2
  have hu := C.ax_mul P.on Q.on
  have hv := C.ay_mul P.on Q.on
  have e1 := r4_EG P.x P.y Z1 Q.x Q.y Z2 C.d _ _ rfl hu
  have e2 := r4_HF P.x P.y Z1 Q.x Q.y Z2 C.d _ _ rfl hv
  rw [e1, e2]
  have eF := r4_F P.x P.y Z1 Q.x Q.y Z2 C.d
  have eG := r4_G P.x P.y Z1 Q.x Q.y Z2 C.d
  have nz := C.mul_ne C.two (C.mul_ne z1 z2)
  have nF := C.mul_ne nz (C.nzB P.on Q.on)
  have nG := C.mul_ne nz (C.nzA P.on Q.on)
  rw [← eF] at nF
  rw [← eG] at nG
  obtain ⟨q1, q2, q3⟩ := r4_fin (C.ax P.x P.y Q.x Q.y) (C.ay P.x P.y Q.x Q.y) (Z1*(Z2+Z2) - P.x*P.y*Z1*((C.d+C.d)*(Q.x*Q.y*Z2))) (Z1*(Z2+Z2) + P.x*P.y*Z1*((C.d+C.d)*(Q.x*Q.y*Z2)))
  exact ⟨C.mul_ne nF nG, q1, q2, q3⟩
theorem Rep4.of (P : Pt C) : Rep4 P P.x P.y 1 (P.x * P.y) := ⟨C.one, by grind, by grind, by grind⟩
theorem Rep4.nought : Rep4 (Pt.nought : Pt C) 0 1 1 0 := ⟨C.one, by show (0 : Fin n) = 0 * 1; grind, by show (1 : Fin n) = 1 * 1; grind, by show (0 : Fin n) = 0 * 1 * 1; grind⟩
theorem r_point (x Z i : Fin n) (h : Z * i = 1) : x * Z * i = x := by grind
theorem Rep4.point {P : Pt C} {X Y Z T : Fin n} (h : Rep4 P X Y Z T) : X * C.inv Z = P.x ∧ Y * C.inv Z = P.y := by
  obtain ⟨z, rfl, rfl, rfl⟩ := h
  exact ⟨r_point _ _ _ (C.inv_mul _ z), r_point _ _ _ (C.inv_mul _ z)⟩
structure Rep3 (P : Pt C) (X Y Z : Fin n) : Prop where
  z : Z ≠ 0
  hx : X = P.x * Z
  hy : Y = P.y * Z
theorem r3_low (x1 y1 z1 x2 y2 z2 d : Fin n) : z1*z2*(z1*z2) - d*(x1*z1*(x2*z2)*(y1*z1*(y2*z2))) = z1*z2*(z1*z2)*(1 - d*(x1*x2*(y1*y2))) := by grind
theorem r3_high (x1 y1 z1 x2 y2 z2 d : Fin n) : z1*z2*(z1*z2) + d*(x1*z1*(x2*z2)*(y1*z1*(y2*z2))) = z1*z2*(z1*z2)*(1 + d*(x1*x2*(y1*y2))) := by grind
theorem r3_x (x1 y1 z1 x2 y2 z2 A u L : Fin n) (hu : u * A = x1*y2 + y1*x2) : z1*z2*(L*(x1*z1*(y2*z2) + y1*z1*(x2*z2))) = u*(L*(z1*z2*(z1*z2)*A)) := by grind
theorem r3_y (x1 y1 z1 x2 y2 z2 B v H : Fin n) (hv : v * B = y1*y2 + x1*x2) : z1*z2*(H*(y1*z1*(y2*z2) + x1*z1*(x2*z2))) = v*(z1*z2*(z1*z2)*B*H) := by grind
theorem Rep3.add {P Q : Pt C} {X1 Y1 Z1 X2 Y2 Z2 : Fin n} (h1 : Rep3 P X1 Y1 Z1) (h2 : Rep3 Q X2 Y2 Z2) :
    Rep3 (P.add Q) (Z1*Z2*((Z1*Z2*(Z1*Z2) - C.d*(X1*X2*(Y1*Y2)))*(X1*Y2 + Y1*X2))) (Z1*Z2*((Z1*Z2*(Z1*Z2) + C.d*(X1*X2*(Y1*Y2)))*(Y1*Y2 + X1*X2))) ((Z1*Z2*(Z1*Z2) - C.d*(X1*X2*(Y1*Y2)))*(Z1*Z2*(Z1*Z2) + C.d*(X1*X2*(Y1*Y2)))) := by
  obtain ⟨z1, rfl, rfl⟩ := h1
  obtain ⟨z2, rfl, rfl⟩ := h2
  have hu := C.ax_mul P.on Q.on
  have hv := C.ay_mul P.on Q.on
  rw [r3_low, r3_high]
  have nz := C.mul_ne (C.mul_ne z1 z2) (C.mul_ne z1 z2)
  exact ⟨C.mul_ne (C.mul_ne nz (C.nzB P.on Q.on)) (C.mul_ne nz (C.nzA P.on Q.on)), r3_x _ _ _ _ _ _ _ _ _ hu, r3_y _ _ _ _ _ _ _ _ _ hv⟩
theorem Rep3.of (P : Pt C) : Rep3 P P.x P.y 1 := ⟨C.one, by grind, by grind⟩
theorem Rep3.nought : Rep3 (Pt.nought : Pt C) 0 1 1 := ⟨C.one, by show (0 : Fin n) = 0 * 1; grind, by show (1 : Fin n) = 1 * 1; grind⟩
theorem Rep3.point {P : Pt C} {X Y Z : Fin n} (h : Rep3 P X Y Z) : X * C.inv Z = P.x ∧ Y * C.inv Z = P.y := by
  obtain ⟨z, rfl, rfl⟩ := h
  exact ⟨r_point _ _ _ (C.inv_mul _ z), r_point _ _ _ (C.inv_mul _ z)⟩
/-! ### The ladder: y told as 1 + y over 1 - y -/
structure RepL (P : Pt C) (X Z : Fin n) : Prop where
  ex : ∃ t : Fin n, t ≠ 0 ∧ X = t * (1 + P.y) ∧ Z = t * (1 - P.y)
theorem Cv.nzD (C : Cv n) (y : Fin n) : 1 + C.d*(y*y) ≠ 0 := fun h => by
  have y0 : y ≠ 0 := fun h0 => C.one (by rw [h0] at h; grind)
  have hi := C.i2
  exact C.notSq y0 (r := C.i) (by grind)
/-- The curve's number by the ladder's. -/
def Cv.Mont (C : Cv n) (a : Fin n) : Prop := a + 1 ≠ 0 ∧ C.d * (a + 1) = -a
theorem l_dbl (d a x y v A : Fin n) (hd : d * (a + 1) = -a) (hon : y*y - x*x = 1 + d*(x*x*(y*y))) (hA : A = 1 - d*(x*x*(y*y))) (hv : v * A = y*y + x*x) :
    (v + 1)*(A*(1 + d*(y*y)))*(a+1) = 2*(y*y) ∧ (1 - v)*(A*(1 + d*(y*y)))*(a+1) = 2*((1 - y*y)*(1 + a*(1 - y*y))) := by
  subst hA
  grind
theorem l_dbl2 (t y a K v : Fin n) (h1 : (v + 1)*K = 2*(y*y)) (h2 : (1 - v)*K = 2*((1 - y*y)*(1 + a*(1 - y*y)))) :
    (t*(1+y) + t*(1-y))*(t*(1+y) + t*(1-y))*((t*(1+y) - t*(1-y))*(t*(1+y) - t*(1-y))) = 8*(t*t*(t*t))*K*(1 + v) ∧
    ((t*(1+y) + t*(1-y))*(t*(1+y) + t*(1-y)) - (t*(1+y) - t*(1-y))*(t*(1+y) - t*(1-y)))*((t*(1+y) + t*(1-y))*(t*(1+y) + t*(1-y)) + a*((t*(1+y) + t*(1-y))*(t*(1+y) + t*(1-y)) - (t*(1+y) - t*(1-y))*(t*(1+y) - t*(1-y)))) = 8*(t*t*(t*t))*K*(1 - v) := by
  grind
theorem RepL.dbl {a : Fin n} (ha : C.Mont a) {P : Pt C} {X Z : Fin n} (h : RepL P X Z) :
    RepL (P.add P) ((X+Z)*(X+Z)*((X-Z)*(X-Z))) (((X+Z)*(X+Z) - (X-Z)*(X-Z))*((X+Z)*(X+Z) + a*((X+Z)*(X+Z) - (X-Z)*(X-Z)))) := by
  obtain ⟨t, ht, rfl, rfl⟩ := h.ex
  have hv := C.ay_mul P.on P.on
  have nB := C.nzB P.on P.on
  obtain ⟨h1, h2⟩ := l_dbl C.d a P.x P.y _ _ ha.2 P.on rfl hv
  obtain ⟨q1, q2⟩ := l_dbl2 t P.y a ((1 - C.d*(P.x*P.x*(P.y*P.y)))*(1 + C.d*(P.y*P.y))*(a+1)) (C.ay P.x P.y P.x P.y) ((m_assoc _ _ _).symm.trans h1) ((m_assoc _ _ _).symm.trans h2)
  refine ⟨⟨8*(t*t*(t*t))*((1 - C.d*(P.x*P.x*(P.y*P.y)))*(1 + C.d*(P.y*P.y))*(a+1)), ?_, q1, q2⟩⟩
  have h8 : (8 : Fin n) ≠ 0 := by
    have : (8 : Fin n) = 2*(2*2) := by grind
    rw [this]; exact C.mul_ne C.two (C.mul_ne C.two C.two)
  exact C.mul_ne (C.mul_ne h8 (C.mul_ne (C.mul_ne ht ht) (C.mul_ne ht ht))) (C.mul_ne (C.mul_ne nB (C.nzD _)) ha.1)
theorem l_p1 (s B S : Fin n) (h : s * B = S) : (1 + s) * B = B + S := by grind
theorem l_m1 (s B S : Fin n) (h : s * B = S) : (1 - s) * B = B - S := by grind
theorem l_prod (s b A B S T W : Fin n) (hs : s * B = S) (hb : b * A = T) : s * b * (A * B * W) = S * T * W := by grind
theorem l_sumB (d xp yp xq yq : Fin n) (hp : yp*yp - xp*xp = 1 + d*(xp*xp*(yp*yp))) (hq : yq*yq - xq*xq = 1 + d*(xq*xq*(yq*yq))) :
    (1 - d*(xp*xq*(yp*yq)) + (yp*yq + xp*xq))*(1 + d*(xp*xq*(yp*yq)) + (yp*yq - xp*xq))*((1 + d*(yp*yp))*(1 + d*(yq*yq))) = (1+d)*((yp+yq)*(yp+yq))*(1 + d*(yp*yq*(yp*yq))) := by grind
theorem l_sumB' (d xp yp xq yq : Fin n) (hp : yp*yp - xp*xp = 1 + d*(xp*xp*(yp*yp))) (hq : yq*yq - xq*xq = 1 + d*(xq*xq*(yq*yq))) :
    (1 - d*(xp*xq*(yp*yq)) - (yp*yq + xp*xq))*(1 + d*(xp*xq*(yp*yq)) - (yp*yq - xp*xq))*((1 + d*(yp*yp))*(1 + d*(yq*yq))) = (1+d)*((yp-yq)*(yp-yq))*(1 + d*(yp*yq*(yp*yq))) := by grind
theorem l_sum (d xp yp xq yq s b : Fin n) (hp : yp*yp - xp*xp = 1 + d*(xp*xp*(yp*yp))) (hq : yq*yq - xq*xq = 1 + d*(xq*xq*(yq*yq)))
    (hs : s * (1 - d*(xp*xq*(yp*yq))) = yp*yq + xp*xq) (hb : b * (1 + d*(xp*xq*(yp*yq))) = yp*yq - xp*xq) :
    (1+s)*(1+b)*((1 + d*(xp*xq*(yp*yq)))*(1 - d*(xp*xq*(yp*yq)))*((1 + d*(yp*yp))*(1 + d*(yq*yq)))) = (1+d)*((yp+yq)*(yp+yq))*(1 + d*(yp*yq*(yp*yq))) :=
  (l_prod _ _ _ _ _ _ _ (l_p1 _ _ _ hs) (l_p1 _ _ _ hb)).trans (l_sumB d xp yp xq yq hp hq)
theorem l_sum' (d xp yp xq yq s b : Fin n) (hp : yp*yp - xp*xp = 1 + d*(xp*xp*(yp*yp))) (hq : yq*yq - xq*xq = 1 + d*(xq*xq*(yq*yq)))
    (hs : s * (1 - d*(xp*xq*(yp*yq))) = yp*yq + xp*xq) (hb : b * (1 + d*(xp*xq*(yp*yq))) = yp*yq - xp*xq) :
    (1-s)*(1-b)*((1 + d*(xp*xq*(yp*yq)))*(1 - d*(xp*xq*(yp*yq)))*((1 + d*(yp*yp))*(1 + d*(yq*yq)))) = (1+d)*((yp-yq)*(yp-yq))*(1 + d*(yp*yq*(yp*yq))) :=
  (l_prod _ _ _ _ _ _ _ (l_m1 _ _ _ hs) (l_m1 _ _ _ hb)).trans (l_sumB' d xp yp xq yq hp hq)
theorem l_dif (tp yp tq yq : Fin n) :
    ((tq*(1+yq) - tq*(1-yq))*(tp*(1+yp) + tp*(1-yp)) + (tq*(1+yq) + tq*(1-yq))*(tp*(1+yp) - tp*(1-yp)))*((tq*(1+yq) - tq*(1-yq))*(tp*(1+yp) + tp*(1-yp)) + (tq*(1+yq) + tq*(1-yq))*(tp*(1+yp) - tp*(1-yp))) = 16*(tp*tp*(tq*tq))*((yp+yq)*(yp+yq)) ∧
    ((tq*(1+yq) - tq*(1-yq))*(tp*(1+yp) + tp*(1-yp)) - (tq*(1+yq) + tq*(1-yq))*(tp*(1+yp) - tp*(1-yp)))*((tq*(1+yq) - tq*(1-yq))*(tp*(1+yp) + tp*(1-yp)) - (tq*(1+yq) + tq*(1-yq))*(tp*(1+yp) - tp*(1-yp))) = 16*(tp*tp*(tq*tq))*((yp-yq)*(yp-yq)) := by
  grind
theorem l_kk (S k ik D : Fin n) (hk : k * ik = 1) (h : D = k * S) : S = D * ik := by grind
theorem l_fin (T S W k ik s b : Fin n) (hk : k * ik = 1) (h : (1+s)*(1+b)*W = k*S) : 16*T*S = 16*T*(1+b)*W*ik*(1+s) := by
  have e := l_kk S k ik _ hk h
  rw [e]
  clear e h hk
  grind
theorem l_fin' (T S W k ik s b u : Fin n) (hk : k * ik = 1) (h : (1-s)*(1-b)*W = k*S) (hu : u * (1 - b) = 1 + b) : u*(16*T*S) = 16*T*(1+b)*W*ik*(1-s) := by
  have e := l_kk S k ik _ hk h
  rw [e, ← hu]
  clear e h hk hu
  grind
theorem l_mm (D S M : Fin n) : D * S * M = D * M * S := by grind
theorem l_neg (d a b c e : Fin n) : 1 - d*(a*(-b)*(c*e)) = 1 + d*(b*a*(e*c)) ∧ c*e + a*(-b) = e*c - b*a := by grind
theorem l_d1 (d a : Fin n) (h : d*(a+1) = -a) (h0 : 1 + d = 0) : (1 : Fin n) = 0 := by grind
theorem l_16 : (16 : Fin n) = 2*2*(2*2) := by grind
theorem l_z (k i : Fin n) (h : k * i = 1) (h0 : i = 0) : (1 : Fin n) = 0 := by grind
theorem RepL.sum {a : Fin n} (ha : C.Mont a) {P Q : Pt C} {X Z X' Z' u : Fin n} (h : RepL P X Z) (h' : RepL Q X' Z') (hu : u * (1 - (Q.add P.neg).y) = 1 + (Q.add P.neg).y) (hb : 1 + (Q.add P.neg).y ≠ 0) :
    RepL (P.add Q) (((X'-Z')*(X+Z) + (X'+Z')*(X-Z))*((X'-Z')*(X+Z) + (X'+Z')*(X-Z))) (u*(((X'-Z')*(X+Z) - (X'+Z')*(X-Z))*((X'-Z')*(X+Z) - (X'+Z')*(X-Z)))) := by
  obtain ⟨p, hp, rfl, rfl⟩ := h.ex
  obtain ⟨q, hq, rfl, rfl⟩ := h'.ex
  obtain ⟨d1, d2⟩ := l_dif p P.y q Q.y
  rw [d1, d2]
  have hs := C.ay_mul P.on Q.on
  have hn := C.ay_mul Q.on P.neg.on
  obtain ⟨hA, hN⟩ := l_neg C.d Q.x P.x Q.y P.y
  have hn' : C.ay Q.x Q.y P.neg.x P.neg.y * (1 + C.d*(P.x*Q.x*(P.y*Q.y))) = P.y*Q.y - P.x*Q.x := by
    rw [← hA, ← hN]; exact hn
  have e1 := l_sum C.d P.x P.y Q.x Q.y (C.ay P.x P.y Q.x Q.y) (C.ay Q.x Q.y P.neg.x P.neg.y) P.on Q.on hs hn'
  have e2 := l_sum' C.d P.x P.y Q.x Q.y (C.ay P.x P.y Q.x Q.y) (C.ay Q.x Q.y P.neg.x P.neg.y) P.on Q.on hs hn'
  replace e1 := e1.trans (l_mm (1 + C.d) _ _)
  replace e2 := e2.trans (l_mm (1 + C.d) _ _)
  have d1n : 1 + C.d ≠ 0 := fun h0 => C.one (l_d1 _ _ ha.2 h0)
  have kn : (1 + C.d)*(1 + C.d*(P.y*Q.y*(P.y*Q.y))) ≠ 0 := C.mul_ne d1n (C.nzD _)
  have ki := C.inv_mul _ kn
  have wn := C.mul_ne (C.mul_ne (C.nzA P.on Q.on) (C.nzB P.on Q.on)) (C.mul_ne (C.nzD P.y) (C.nzD Q.y))
  have h16 : (16 : Fin n) ≠ 0 := by rw [l_16]; exact C.mul_ne (C.mul_ne C.two C.two) (C.mul_ne C.two C.two)
  have in0 := fun h0 => C.one (l_z _ _ ki h0)
  exact ⟨⟨_, C.mul_ne (C.mul_ne (C.mul_ne (C.mul_ne h16 (C.mul_ne (C.mul_ne hp hp) (C.mul_ne hq hq))) hb) wn) in0, l_fin _ _ _ _ _ _ _ ki e1, l_fin' _ _ _ _ _ _ _ u ki e2 hu⟩⟩
theorem fin_mul_comm' (a b : Fin n) : a * b = b * a := by grind
theorem fin_mul_one' (a : Fin n) : a * 1 = a := by grind
theorem g_y1 (y : Fin n) (h : 1 - y = 0) : y = 1 := by grind
theorem g_y2 (y : Fin n) (h : 1 + y = 0) : y = -1 := by grind
theorem g_x0 (x d : Fin n) (h : (1 : Fin n)*1 - x*x = 1 + d*(x*x*(1*1))) : x*x*(1 + d) = 0 := by grind
theorem g_x0' (x d : Fin n) (h : (-1 : Fin n)*(-1) - x*x = 1 + d*(x*x*((-1)*(-1)))) : x*x*(1 + d) = 0 := by grind
theorem g_neg0 : (0 : Fin n) = -0 := by grind
theorem l_ji (t z i j : Fin n) (h1 : z * i = 1) (h2 : t * z * j = 1) : j * t * z = i * z := by grind
theorem l_tj (t a j : Fin n) : t * a * j = a * (j * t) := by grind
/-- What the ladder comes to: 1 + y over 1 - y, 0 if 1 - y is 0. -/
theorem RepL.out {P : Pt C} {X Z : Fin n} (h : RepL P X Z) (h0 : C.inv 0 = 0) : X * C.inv Z = (1 + P.y) * C.inv (1 - P.y) := by
  obtain ⟨t, ht, rfl, rfl⟩ := h.ex
  by_cases hz : 1 - P.y = 0
  · rw [hz, show t * (0 : Fin n) = 0 by grind, h0]; grind
  · have h1 := C.inv_mul _ hz
    have h2 := C.inv_mul _ (C.mul_ne ht hz)
    generalize C.inv (1 - P.y) = i at *
    generalize C.inv (t * (1 - P.y)) = j at *
    have : j * t = i := C.cancel hz (l_ji _ _ _ _ h1 h2)
    rw [← this]
    exact l_tj _ _ _
theorem RepL.nought : RepL (Pt.nought : Pt C) 1 0 := by
  have h2 := C.inv_mul _ C.two
  refine ⟨⟨C.inv 2, fun h0 => C.one (by rw [h0] at h2; grind), ?_, ?_⟩⟩
  · show (1 : Fin n) = C.inv 2 * (1 + 1); grind
  · show (0 : Fin n) = C.inv 2 * (1 - 1); grind
theorem RepL.base {P : Pt C} {u : Fin n} (hu : u * (1 - P.y) = 1 + P.y) (h1 : 1 - P.y ≠ 0) : RepL P u 1 := by
  have hi := C.inv_mul _ h1
  refine ⟨⟨C.inv (1 - P.y), fun h0 => C.one (by rw [h0] at hi; grind), ?_, ?_⟩⟩
  · rw [← hu]; grind
  · grind
end
end Go.Sp
/- The field's numbers as a field, and the curve's numbers: the points of edwards25519. Own work; no program in sight. -/
namespace Go.Proofs.Ytpeplakhcgaajaa
open Go.Ev Go.Sp Go.RowKit
set_option maxRecDepth 100000
instance instNeZeroPp : NeZero Pp := ⟨by decide⟩
def tF (x : Nat) : Fin Pp := ⟨x % Pp, Nat.mod_lt _ Pp_pos⟩
theorem fin_mul {n : Nat} (a b : Fin n) : (a * b).val = a.val * b.val % n := rfl
theorem fin_add {n : Nat} (a b : Fin n) : (a + b).val = (a.val + b.val) % n := rfl
theorem fin_neg {n : Nat} [NeZero n] (a : Fin n) : (-a).val = (n - a.val) % n := rfl
theorem fin_sub {n : Nat} [NeZero n] (a b : Fin n) : a - b = a + -b := by grind
theorem tF_mul (x y : Nat) : tF (fMul x y) = tF x * tF y := by
  apply Fin.ext
  rw [fin_mul]
  show x * y % Pp % Pp = x % Pp * (y % Pp) % Pp
  rw [Nat.mod_mod, ← Nat.mul_mod]
theorem tF_add (x y : Nat) : tF (fAdd x y) = tF x + tF y := by
  apply Fin.ext
  rw [fin_add]
  show (x + y) % Pp % Pp = (x % Pp + y % Pp) % Pp
  rw [Nat.mod_mod, ← Nat.add_mod]
theorem tF_neg {x : Nat} (h : x < Pp) : tF (fNeg x) = -tF x := by
  apply Fin.ext
  rw [fin_neg]
  show (Pp - x) % Pp % Pp = (Pp - x % Pp) % Pp
  rw [Nat.mod_mod, Nat.mod_eq_of_lt h]
theorem tF_sub (x : Nat) {y : Nat} (h : y < Pp) : tF (fSub x y) = tF x - tF y := by
  unfold fSub
  rw [tF_add, tF_neg h, fin_sub]
theorem tF_val (a : Fin Pp) : tF a.val = a := Fin.ext (Nat.mod_eq_of_lt a.isLt)
theorem val_tF {x : Nat} (h : x < Pp) : (tF x).val = x := Nat.mod_eq_of_lt h
theorem tF_inj {x y : Nat} (hx : x < Pp) (hy : y < Pp) (h : tF x = tF y) : x = y := by
  rw [← val_tF hx, ← val_tF hy, h]
theorem tF_zero : tF 0 = 0 := Fin.ext (by kernel_rfl)
theorem tF_one : tF 1 = 1 := Fin.ext (by kernel_rfl)
theorem tF_two : tF 2 = 2 := Fin.ext (by kernel_rfl)
theorem tF_mod (x : Nat) : tF (x % Pp) = tF x := Fin.ext (Nat.mod_mod x Pp)
theorem fInv_mul {x : Nat} (h0 : x ≠ 0) (h : x < Pp) : fMul x (fInv x) = 1 := by
  unfold fInv
  have h1 : pw x 1 = x := pw_one h
  have h2 := pw_mul x 1 Pe
  rw [h1, show 1 + Pe = Pp - 1 by decide, pw_fermat h0 h] at h2
  exact h2
theorem fInv_lt (x : Nat) : fInv x < Pp := pw_lt _ _
/-- The curve's number. -/
def dN : Nat := 37095705934669439343138083508754565189542113879843219016388785533085940283555
theorem dN_lt : dN < Pp := by decide
theorem dN_sq : sqV dN = false := by
  unfold sqV
  rw [pw_fast dN Ph (by decide)]
  kernel_rfl
def Ed : Cv Pp where
  d := tF dN
  i := tF turnQ
  inv a := tF (fInv a.val)
  i2 := by
    rw [← tF_mul, turn_sq]
    have h : Pp - 1 = fNeg 1 := (Nat.mod_eq_of_lt (by decide)).symm
    rw [h, tF_neg (by decide), tF_one]
  dom a b h := by
    rw [← tF_val a, ← tF_val b, ← tF_mul, ← tF_zero] at h
    have := tF_inj (fMul_lt _ _) Pp_pos h
    rcases Go.Proofs.Ytpeplakhcgaajaa.dom a.isLt b.isLt this with h0 | h0
    · left; rw [← tF_val a, h0, tF_zero]
    · right; rw [← tF_val b, h0, tF_zero]
  nsq r h := by
    rw [← tF_val r, ← tF_mul] at h
    have h1 := tF_inj (fMul_lt _ _) dN_lt h
    have h2 := sqV_of r.isLt h1
    rw [dN_sq] at h2
    exact Bool.noConfusion h2
  inv_mul a h := by
    have h0 : a.val ≠ 0 := fun e => h (by rw [← tF_val a, e, tF_zero])
    have := fInv_mul h0 a.isLt
    calc a * tF (fInv a.val) = tF a.val * tF (fInv a.val) := by rw [tF_val]
      _ = tF (fMul a.val (fInv a.val)) := (tF_mul _ _).symm
      _ = 1 := by rw [this, tF_one]
  one := by
    rw [← tF_one, ← tF_zero]
    exact fun h => absurd (tF_inj (by decide) Pp_pos h) (by decide)
  two := by
    rw [← tF_two, ← tF_zero]
    exact fun h => absurd (tF_inj (by decide) Pp_pos h) (by decide)
theorem tF_inv {x : Nat} (h : x < Pp) : tF (fInv x) = Ed.inv (tF x) := by
  show tF (fInv x) = tF (fInv (tF x).val)
  rw [val_tF h]
theorem Ed_inv0 : Ed.inv 0 = 0 := by
  rw [← tF_zero, ← tF_inv Pp_pos]
  unfold fInv
  rw [pw_zero (by decide)]
theorem Ed_mont : Ed.Mont (tF 121665) := by
  have h1 : fAdd 121665 1 = 121666 := by kernel_rfl
  have h2 : fMul dN 121666 = fNeg 121665 := by kernel_rfl
  constructor
  · rw [← tF_one, ← tF_add, h1, ← tF_zero]
    exact fun h => absurd (tF_inj (by decide) Pp_pos h) (by decide)
  · show tF dN * (tF 121665 + 1) = _
    rw [← tF_one, ← tF_add, h1, ← tF_mul, h2, tF_neg (by decide)]
end Go.Proofs.Ytpeplakhcgaajaa
/- Contracts of layer 5: the ladder. Own work. -/
namespace Go.Proofs.Ytpeplakhcgaajaa
open Go.Ev Go.Sp Go.RowKit
set_option maxRecDepth 100000
def spLStepG (G : N4 → N4 → N4 → N4 → N4 → L4) : List AV → Option (AV × List Prop)
  | [.val true [.n4 u], .val true [.n4 a, .n4 b], .val true [.n4 c, .n4 d]] => some (.tup [(true, [.n4 (ofN (G u a b c d).a), .n4 (ofN (G u a b c d).b)]), (true, [.n4 (ofN (G u a b c d).c), .n4 (ofN (G u a b c d).d)])], [])
  | _ => none
def tblLb0 : List (FuncId × CtS) := [(19, .fn spFrom), (20, .fn spBit), (10, .fn spClamp), (21, .fn spSwap), (24, .fn (sp2N fMul)), (23, .fn spPEnc)]
theorem okLb0 : TblOk Try.prog tblLb0 := ⟨⟨ctFrom, by kernel_rfl⟩, ⟨ctBit, by kernel_rfl⟩, ⟨ctClamp, by kernel_rfl⟩, ⟨ctSwap, by kernel_rfl⟩, ⟨ctPMul, by kernel_rfl⟩, ⟨ctPEnc, by kernel_rfl⟩, trivial⟩
theorem gsLb0 : GSound Try.prog (upG (lookG tblLb0)) := GSound_of_tbl okLb0
def tblLb (G : N4 → N4 → N4 → N4 → N4 → L4) (v : Nat → Nat) : List (FuncId × CtS) :=
  (22, .fn (spLStepG G)) :: (25, .fn (sp1N v)) :: tblLb0
theorem gsLb : GSound Try.prog (upG (lookG (tblLb l4N fInv))) := GSound_of_tbl ⟨⟨ctLStep, by kernel_rfl⟩, ⟨ctPInv, by kernel_rfl⟩, okLb0⟩
def muTd : List Nat := [8, 10, 12, 13, 14, 47]
def muInv (n x a b c d : N4) (i j : Int) : St := ⟨slotsOf 85 [(8, sc (.ptr 0 0)), (10, sc (.ptr 1 0)), (12, sc (.ptr 2 0)), (13, sc (.ptr 3 0)), (14, sc (.i64 i)), (47, sc (.i64 j))], [(0, ⟨true, [.n4 n]⟩), (1, ⟨true, [.n4 x]⟩), (2, ⟨true, [.n4 a, .n4 b]⟩), (3, ⟨true, [.n4 c, .n4 d]⟩)], 16⟩
theorem muRound (G : N4 → N4 → N4 → N4 → N4 → L4) (v : Nat → Nat) (n x a b c d : N4) (i j : Int) : roundS Try.prog (lookG (tblLb G v)) (orcA [(10, [(0, true)]), (16, [(1, false)])]) [] 10 muTd (bodyAt Try.prog 13 10) (muInv n x a b c d i j) =
    some (Ex.normal, St.mk (slotsOf 85 [(8, sc (IV.ptr 0 0)), (10, sc (IV.ptr 1 0)), (12, sc (IV.ptr 2 0)), (13, sc (IV.ptr 3 0)), (14, sc (IV.i64 (i - (1 : Int)))), (47, sc (IV.i64 (j + (1 : Int))))]) [(0, Blk.mk true [IV.n4 n]), (1, Blk.mk true [IV.n4 x]), (2, Blk.mk true [IV.n4 (if bitN n i = BitVec.ofNat 64 0 then ofN (G x (if bitN n i = BitVec.ofNat 64 0 then a else c) (if bitN n i = BitVec.ofNat 64 0 then b else d) (if bitN n i = BitVec.ofNat 64 0 then c else a) (if bitN n i = BitVec.ofNat 64 0 then d else b)).a else ofN (G x (if bitN n i = BitVec.ofNat 64 0 then a else c) (if bitN n i = BitVec.ofNat 64 0 then b else d) (if bitN n i = BitVec.ofNat 64 0 then c else a) (if bitN n i = BitVec.ofNat 64 0 then d else b)).c), IV.n4 (if bitN n i = BitVec.ofNat 64 0 then ofN (G x (if bitN n i = BitVec.ofNat 64 0 then a else c) (if bitN n i = BitVec.ofNat 64 0 then b else d) (if bitN n i = BitVec.ofNat 64 0 then c else a) (if bitN n i = BitVec.ofNat 64 0 then d else b)).b else ofN (G x (if bitN n i = BitVec.ofNat 64 0 then a else c) (if bitN n i = BitVec.ofNat 64 0 then b else d) (if bitN n i = BitVec.ofNat 64 0 then c else a) (if bitN n i = BitVec.ofNat 64 0 then d else b)).d)]), (3, Blk.mk true [IV.n4 (if bitN n i = BitVec.ofNat 64 0 then ofN (G x (if bitN n i = BitVec.ofNat 64 0 then a else c) (if bitN n i = BitVec.ofNat 64 0 then b else d) (if bitN n i = BitVec.ofNat 64 0 then c else a) (if bitN n i = BitVec.ofNat 64 0 then d else b)).c else ofN (G x (if bitN n i = BitVec.ofNat 64 0 then a else c) (if bitN n i = BitVec.ofNat 64 0 then b else d) (if bitN n i = BitVec.ofNat 64 0 then c else a) (if bitN n i = BitVec.ofNat 64 0 then d else b)).a), IV.n4 (if bitN n i = BitVec.ofNat 64 0 then ofN (G x (if bitN n i = BitVec.ofNat 64 0 then a else c) (if bitN n i = BitVec.ofNat 64 0 then b else d) (if bitN n i = BitVec.ofNat 64 0 then c else a) (if bitN n i = BitVec.ofNat 64 0 then d else b)).d else ofN (G x (if bitN n i = BitVec.ofNat 64 0 then a else c) (if bitN n i = BitVec.ofNat 64 0 then b else d) (if bitN n i = BitVec.ofNat 64 0 then c else a) (if bitN n i = BitVec.ofNat 64 0 then d else b)).b)])] 16, [decide (j < (255 : Int)) = true, inI64 (i - (1 : Int)), decide (i - (1 : Int) < (0 : Int)) = false, inI64 (j + (1 : Int))]) := by kernel_rfl
theorem muLast (G : N4 → N4 → N4 → N4 → N4 → L4) (v : Nat → Nat) (n x a b c d : N4) (i j : Int) : roundS Try.prog (lookG (tblLb G v)) (orcA [(10, [(0, true)]), (16, [(1, true)])]) [] 10 muTd (bodyAt Try.prog 13 10) (muInv n x a b c d i j) =
    some (Ex.exit 0, St.mk (slotsOf 85 [(8, sc (IV.ptr 0 0)), (10, sc (IV.ptr 1 0)), (12, sc (IV.ptr 2 0)), (13, sc (IV.ptr 3 0)), (14, sc (IV.i64 (i - (1 : Int)))), (47, sc (IV.i64 j))]) [(0, Blk.mk true [IV.n4 n]), (1, Blk.mk true [IV.n4 x]), (2, Blk.mk true [IV.n4 (if bitN n i = BitVec.ofNat 64 0 then ofN (G x (if bitN n i = BitVec.ofNat 64 0 then a else c) (if bitN n i = BitVec.ofNat 64 0 then b else d) (if bitN n i = BitVec.ofNat 64 0 then c else a) (if bitN n i = BitVec.ofNat 64 0 then d else b)).a else ofN (G x (if bitN n i = BitVec.ofNat 64 0 then a else c) (if bitN n i = BitVec.ofNat 64 0 then b else d) (if bitN n i = BitVec.ofNat 64 0 then c else a) (if bitN n i = BitVec.ofNat 64 0 then d else b)).c), IV.n4 (if bitN n i = BitVec.ofNat 64 0 then ofN (G x (if bitN n i = BitVec.ofNat 64 0 then a else c) (if bitN n i = BitVec.ofNat 64 0 then b else d) (if bitN n i = BitVec.ofNat 64 0 then c else a) (if bitN n i = BitVec.ofNat 64 0 then d else b)).b else ofN (G x (if bitN n i = BitVec.ofNat 64 0 then a else c) (if bitN n i = BitVec.ofNat 64 0 then b else d) (if bitN n i = BitVec.ofNat 64 0 then c else a) (if bitN n i = BitVec.ofNat 64 0 then d else b)).d)]), (3, Blk.mk true [IV.n4 (if bitN n i = BitVec.ofNat 64 0 then ofN (G x (if bitN n i = BitVec.ofNat 64 0 then a else c) (if bitN n i = BitVec.ofNat 64 0 then b else d) (if bitN n i = BitVec.ofNat 64 0 then c else a) (if bitN n i = BitVec.ofNat 64 0 then d else b)).c else ofN (G x (if bitN n i = BitVec.ofNat 64 0 then a else c) (if bitN n i = BitVec.ofNat 64 0 then b else d) (if bitN n i = BitVec.ofNat 64 0 then c else a) (if bitN n i = BitVec.ofNat 64 0 then d else b)).a), IV.n4 (if bitN n i = BitVec.ofNat 64 0 then ofN (G x (if bitN n i = BitVec.ofNat 64 0 then a else c) (if bitN n i = BitVec.ofNat 64 0 then b else d) (if bitN n i = BitVec.ofNat 64 0 then c else a) (if bitN n i = BitVec.ofNat 64 0 then d else b)).d else ofN (G x (if bitN n i = BitVec.ofNat 64 0 then a else c) (if bitN n i = BitVec.ofNat 64 0 then b else d) (if bitN n i = BitVec.ofNat 64 0 then c else a) (if bitN n i = BitVec.ofNat 64 0 then d else b)).b)])] 16, [decide (j < (255 : Int)) = true, inI64 (i - (1 : Int)), decide (i - (1 : Int) < (0 : Int)) = true]) := by kernel_rfl
def tblLd : List (FuncId × CtS) := [(11, .fn spClamp), (30, .fn spBitR), (28, .fn spNRead), (27, .fn (orD spNOf)), (26, .fn spROf), (29, .fn spInt), (31, .fn (sp2F fAdd)), (32, .fn (sp2F fSub)), (33, .fn (sp2F fMul)), (35, .fn (sp1F fInv)), (34, .fn spREnc)]
theorem okLd : TblOk Try.prog tblLd := ⟨⟨ctRClamp, by kernel_rfl⟩, ⟨ctBitR, by kernel_rfl⟩, ⟨nRead, by kernel_rfl⟩, ⟨FnS_orD nOf, by kernel_rfl⟩, ⟨ctROf, by kernel_rfl⟩, ⟨ctInt, by kernel_rfl⟩, ⟨ctFAdd, by kernel_rfl⟩, ⟨ctFSub, by kernel_rfl⟩, ⟨ctFMul, by kernel_rfl⟩, ⟨ctFInv, by kernel_rfl⟩, ⟨ctREnc, by kernel_rfl⟩, trivial⟩
theorem gsLd : GSound Try.prog (upG (lookG tblLd)) := GSound_of_tbl okLd
def rmTd : List Nat := [6, 9, 10, 11, 12, 13, 14]
def rmInv (s : BL) (u : Nat) (l : L4) (i : Int) : St := ⟨slotsOf 132 [(6, sc (.sl 0 0 s.length)), (9, sc (.ptr 1 0)), (10, sc (.ptr 2 0)), (11, sc (.ptr 3 0)), (12, sc (.ptr 4 0)), (13, sc (.ptr 5 0)), (14, sc (.i64 i))], [(0, ⟨true, [.v8 s.length s]⟩), (1, ⟨true, [.fe u]⟩), (2, ⟨true, [.fe l.a]⟩), (3, ⟨true, [.fe l.b]⟩), (4, ⟨true, [.fe l.c]⟩), (5, ⟨true, [.fe l.d]⟩)], 16⟩
theorem rmRound0 (s : BL) (u : Nat) (l : L4) (i : Int) : roundS Try.prog (lookG tblLd) (orcA [(9, [(1, true)]), (11, [(3, false)]), (27, [(3, false)])]) [] 10 rmTd (bodyAt Try.prog 14 9) (rmInv s u l i) =
    some (Ex.normal, St.mk (slotsOf 132 [(6, sc (IV.sl 0 0 (List.length s))), (9, sc (IV.ptr 1 0)), (10, sc (IV.ptr 2 0)), (11, sc (IV.ptr 3 0)), (12, sc (IV.ptr 4 0)), (13, sc (IV.ptr 5 0)), (14, sc (IV.i64 (i - (1 : Int))))]) [(0, Blk.mk true [IV.v8 (List.length s) s]), (1, Blk.mk true [IV.fe u]), (2, Blk.mk true [IV.fe (fMul (fMul (fAdd l.a l.b) (fAdd l.a l.b)) (fMul (fSub l.a l.b) (fSub l.a l.b)))]), (3, Blk.mk true [IV.fe (fMul (fSub (fMul (fAdd l.a l.b) (fAdd l.a l.b)) (fMul (fSub l.a l.b) (fSub l.a l.b))) (fAdd (fMul (fAdd l.a l.b) (fAdd l.a l.b)) (fMul 121665 (fSub (fMul (fAdd l.a l.b) (fAdd l.a l.b)) (fMul (fSub l.a l.b) (fSub l.a l.b))))))]), (4, Blk.mk true [IV.fe (fMul (fAdd (fMul (fSub l.c l.d) (fAdd l.a l.b)) (fMul (fAdd l.c l.d) (fSub l.a l.b))) (fAdd (fMul (fSub l.c l.d) (fAdd l.a l.b)) (fMul (fAdd l.c l.d) (fSub l.a l.b))))]), (5, Blk.mk true [IV.fe (fMul u (fMul (fSub (fMul (fSub l.c l.d) (fAdd l.a l.b)) (fMul (fAdd l.c l.d) (fSub l.a l.b))) (fSub (fMul (fSub l.c l.d) (fAdd l.a l.b)) (fMul (fAdd l.c l.d) (fSub l.a l.b)))))])] 16, [decide ((0 : Int) ≤ i) = true, List.length s = List.length s, List.length s = 32, (0 : Int) ≤ i, i < (256 : Int), ((↑(bitB s i.toNat) : Int) == (1 : Int)) = false, l.a < Pp, l.b < Pp, l.a < Pp, l.b < Pp, l.c < Pp, l.d < Pp, fSub l.c l.d < Pp, fAdd l.a l.b < Pp, l.c < Pp, l.d < Pp, fAdd l.c l.d < Pp, fSub l.a l.b < Pp, fAdd l.a l.b < Pp, fAdd l.a l.b < Pp, fSub l.a l.b < Pp, fSub l.a l.b < Pp, fMul (fAdd l.a l.b) (fAdd l.a l.b) < Pp, fMul (fSub l.a l.b) (fSub l.a l.b) < Pp, fMul (fSub l.c l.d) (fAdd l.a l.b) < Pp, fMul (fAdd l.c l.d) (fSub l.a l.b) < Pp, fMul (fSub l.c l.d) (fAdd l.a l.b) < Pp, fMul (fAdd l.c l.d) (fSub l.a l.b) < Pp, fAdd (fMul (fSub l.c l.d) (fAdd l.a l.b)) (fMul (fAdd l.c l.d) (fSub l.a l.b)) < Pp, fAdd (fMul (fSub l.c l.d) (fAdd l.a l.b)) (fMul (fAdd l.c l.d) (fSub l.a l.b)) < Pp, fSub (fMul (fSub l.c l.d) (fAdd l.a l.b)) (fMul (fAdd l.c l.d) (fSub l.a l.b)) < Pp, fSub (fMul (fSub l.c l.d) (fAdd l.a l.b)) (fMul (fAdd l.c l.d) (fSub l.a l.b)) < Pp, u < Pp, fMul (fSub (fMul (fSub l.c l.d) (fAdd l.a l.b)) (fMul (fAdd l.c l.d) (fSub l.a l.b))) (fSub (fMul (fSub l.c l.d) (fAdd l.a l.b)) (fMul (fAdd l.c l.d) (fSub l.a l.b))) < Pp, fMul (fAdd l.a l.b) (fAdd l.a l.b) < Pp, fMul (fSub l.a l.b) (fSub l.a l.b) < Pp, (0 : Int) ≤ (65535 : Int), (65535 : Int) < (65536 : Int), (0 : Int) ≤ (56130 : Int), (56130 : Int) < (65536 : Int), 65535 < Pp, 56130 < Pp, 121665 < Pp, fSub (fMul (fAdd l.a l.b) (fAdd l.a l.b)) (fMul (fSub l.a l.b) (fSub l.a l.b)) < Pp, fMul (fAdd l.a l.b) (fAdd l.a l.b) < Pp, fMul 121665 (fSub (fMul (fAdd l.a l.b) (fAdd l.a l.b)) (fMul (fSub l.a l.b) (fSub l.a l.b))) < Pp, fSub (fMul (fAdd l.a l.b) (fAdd l.a l.b)) (fMul (fSub l.a l.b) (fSub l.a l.b)) < Pp, fAdd (fMul (fAdd l.a l.b) (fAdd l.a l.b)) (fMul 121665 (fSub (fMul (fAdd l.a l.b) (fAdd l.a l.b)) (fMul (fSub l.a l.b) (fSub l.a l.b)))) < Pp, List.length s = List.length s, List.length s = 32, (0 : Int) ≤ i, i < (256 : Int), ((↑(bitB s i.toNat) : Int) == (1 : Int)) = false, inI64 (i - (1 : Int))]) := by kernel_rfl
theorem rmRound1 (s : BL) (u : Nat) (l : L4) (i : Int) : roundS Try.prog (lookG tblLd) (orcA [(9, [(1, true)]), (11, [(3, true)]), (27, [(3, true)])]) [] 10 rmTd (bodyAt Try.prog 14 9) (rmInv s u l i) =
    some (Ex.normal, St.mk (slotsOf 132 [(6, sc (IV.sl 0 0 (List.length s))), (9, sc (IV.ptr 1 0)), (10, sc (IV.ptr 2 0)), (11, sc (IV.ptr 3 0)), (12, sc (IV.ptr 4 0)), (13, sc (IV.ptr 5 0)), (14, sc (IV.i64 (i - (1 : Int))))]) [(0, Blk.mk true [IV.v8 (List.length s) s]), (1, Blk.mk true [IV.fe u]), (2, Blk.mk true [IV.fe (fMul (fAdd (fMul (fSub l.a l.b) (fAdd l.c l.d)) (fMul (fAdd l.a l.b) (fSub l.c l.d))) (fAdd (fMul (fSub l.a l.b) (fAdd l.c l.d)) (fMul (fAdd l.a l.b) (fSub l.c l.d))))]), (3, Blk.mk true [IV.fe (fMul u (fMul (fSub (fMul (fSub l.a l.b) (fAdd l.c l.d)) (fMul (fAdd l.a l.b) (fSub l.c l.d))) (fSub (fMul (fSub l.a l.b) (fAdd l.c l.d)) (fMul (fAdd l.a l.b) (fSub l.c l.d)))))]), (4, Blk.mk true [IV.fe (fMul (fMul (fAdd l.c l.d) (fAdd l.c l.d)) (fMul (fSub l.c l.d) (fSub l.c l.d)))]), (5, Blk.mk true [IV.fe (fMul (fSub (fMul (fAdd l.c l.d) (fAdd l.c l.d)) (fMul (fSub l.c l.d) (fSub l.c l.d))) (fAdd (fMul (fAdd l.c l.d) (fAdd l.c l.d)) (fMul 121665 (fSub (fMul (fAdd l.c l.d) (fAdd l.c l.d)) (fMul (fSub l.c l.d) (fSub l.c l.d))))))])] 16, [decide ((0 : Int) ≤ i) = true, List.length s = List.length s, List.length s = 32, (0 : Int) ≤ i, i < (256 : Int), ((↑(bitB s i.toNat) : Int) == (1 : Int)) = true, l.c < Pp, l.d < Pp, l.c < Pp, l.d < Pp, l.a < Pp, l.b < Pp, fSub l.a l.b < Pp, fAdd l.c l.d < Pp, l.a < Pp, l.b < Pp, fAdd l.a l.b < Pp, fSub l.c l.d < Pp, fAdd l.c l.d < Pp, fAdd l.c l.d < Pp, fSub l.c l.d < Pp, fSub l.c l.d < Pp, fMul (fAdd l.c l.d) (fAdd l.c l.d) < Pp, fMul (fSub l.c l.d) (fSub l.c l.d) < Pp, fMul (fSub l.a l.b) (fAdd l.c l.d) < Pp, fMul (fAdd l.a l.b) (fSub l.c l.d) < Pp, fMul (fSub l.a l.b) (fAdd l.c l.d) < Pp, fMul (fAdd l.a l.b) (fSub l.c l.d) < Pp, fAdd (fMul (fSub l.a l.b) (fAdd l.c l.d)) (fMul (fAdd l.a l.b) (fSub l.c l.d)) < Pp, fAdd (fMul (fSub l.a l.b) (fAdd l.c l.d)) (fMul (fAdd l.a l.b) (fSub l.c l.d)) < Pp, fSub (fMul (fSub l.a l.b) (fAdd l.c l.d)) (fMul (fAdd l.a l.b) (fSub l.c l.d)) < Pp, fSub (fMul (fSub l.a l.b) (fAdd l.c l.d)) (fMul (fAdd l.a l.b) (fSub l.c l.d)) < Pp, u < Pp, fMul (fSub (fMul (fSub l.a l.b) (fAdd l.c l.d)) (fMul (fAdd l.a l.b) (fSub l.c l.d))) (fSub (fMul (fSub l.a l.b) (fAdd l.c l.d)) (fMul (fAdd l.a l.b) (fSub l.c l.d))) < Pp, fMul (fAdd l.c l.d) (fAdd l.c l.d) < Pp, fMul (fSub l.c l.d) (fSub l.c l.d) < Pp, (0 : Int) ≤ (65535 : Int), (65535 : Int) < (65536 : Int), (0 : Int) ≤ (56130 : Int), (56130 : Int) < (65536 : Int), 65535 < Pp, 56130 < Pp, 121665 < Pp, fSub (fMul (fAdd l.c l.d) (fAdd l.c l.d)) (fMul (fSub l.c l.d) (fSub l.c l.d)) < Pp, fMul (fAdd l.c l.d) (fAdd l.c l.d) < Pp, fMul 121665 (fSub (fMul (fAdd l.c l.d) (fAdd l.c l.d)) (fMul (fSub l.c l.d) (fSub l.c l.d))) < Pp, fSub (fMul (fAdd l.c l.d) (fAdd l.c l.d)) (fMul (fSub l.c l.d) (fSub l.c l.d)) < Pp, fAdd (fMul (fAdd l.c l.d) (fAdd l.c l.d)) (fMul 121665 (fSub (fMul (fAdd l.c l.d) (fAdd l.c l.d)) (fMul (fSub l.c l.d) (fSub l.c l.d)))) < Pp, List.length s = List.length s, List.length s = 32, (0 : Int) ≤ i, i < (256 : Int), ((↑(bitB s i.toNat) : Int) == (1 : Int)) = true, inI64 (i - (1 : Int))]) := by kernel_rfl
theorem rmExit (s : BL) (u : Nat) (l : L4) (i : Int) : roundS Try.prog (lookG tblLd) (orcA [(9, [(1, false)])]) [] 10 rmTd (bodyAt Try.prog 14 9) (rmInv s u l i) =
    some (Ex.exit 0, St.mk (slotsOf 132 [(6, sc (IV.sl 0 0 (List.length s))), (9, sc (IV.ptr 1 0)), (10, sc (IV.ptr 2 0)), (11, sc (IV.ptr 3 0)), (12, sc (IV.ptr 4 0)), (13, sc (IV.ptr 5 0)), (14, sc (IV.i64 i))]) [(0, Blk.mk true [IV.v8 (List.length s) s]), (1, Blk.mk true [IV.fe u]), (2, Blk.mk true [IV.fe l.a]), (3, Blk.mk true [IV.fe l.b]), (4, Blk.mk true [IV.fe l.c]), (5, Blk.mk true [IV.fe l.d])] 16, [decide ((0 : Int) ≤ i) = false]) := by kernel_rfl
theorem runMu (G : N4 → N4 → N4 → N4 → N4 → L4) (v : Nat → Nat) (k u : BL) (n x a b c d : N4) (i j : Int) : fnS Try.prog (lookG (tblLb G v)) (orcA [(2, [(1, false), (5, false)])]) [⟨10, muTd, .exit 0, muInv n x a b c d i j⟩] 10 13 [sc (.d8 k), sc (.d8 u)] =
    some (AV.tup [(false, [IV.d8 (cutL (bl (val (ofN (fMul (val a % Pp) (val (ofN (v (val b % Pp))) % Pp))) % Pp) 32) 0 (bl (val (ofN (fMul (val a % Pp) (val (ofN (v (val b % Pp))) % Pp))) % Pp) 32).length (bl (val (ofN (fMul (val a % Pp) (val (ofN (v (val b % Pp))) % Pp))) % Pp) 32).length)]), (false, [IV.i64 (0 : Int)])], [List.length k = List.length k, (!(clampV k).snd == (0 : Int)) = false, (!(↑(List.length u) : Int) == (32 : Int)) = false, List.length (clampV k).fst = List.length (clampV k).fst, List.length u = List.length u, (0 : Int) ≤ (3 : Int), 3 < 4, 3 < 4, (0 : Int) ≤ (3 : Int), 3 < 4, 3 < 4, LoopTo Try.prog (bodyAt Try.prog 13 10) (St.mk (slotsOf 85 [(8, sc (IV.ptr 0 0)), (10, sc (IV.ptr 1 0)), (12, sc (IV.ptr 2 0)), (13, sc (IV.ptr 3 0)), (14, sc (IV.i64 (254 : Int))), (47, sc (IV.i64 (0 : Int)))]) [(0, Blk.mk true [IV.n4 (fromV (clampV k).fst).fst]), (1, Blk.mk true [IV.n4 ((fromV u).fst.set 3 ((fromV u).fst.get 3 &&& BitVec.ofNat 64 9223372036854775807))]), (2, Blk.mk true [IV.n4 (N4.mk (BitVec.ofNat 64 1) (BitVec.ofNat 64 0) (BitVec.ofNat 64 0) (BitVec.ofNat 64 0)), IV.n4 (N4.mk (BitVec.ofNat 64 0) (BitVec.ofNat 64 0) (BitVec.ofNat 64 0) (BitVec.ofNat 64 0))]), (3, Blk.mk true [IV.n4 ((fromV u).fst.set 3 ((fromV u).fst.get 3 &&& BitVec.ofNat 64 9223372036854775807)), IV.n4 (N4.mk (BitVec.ofNat 64 1) (BitVec.ofNat 64 0) (BitVec.ofNat 64 0) (BitVec.ofNat 64 0))])] 16) (Ex.exit 0) (St.mk (slotsOf 85 [(8, sc (IV.ptr 0 0)), (10, sc (IV.ptr 1 0)), (12, sc (IV.ptr 2 0)), (13, sc (IV.ptr 3 0)), (14, sc (IV.i64 i)), (47, sc (IV.i64 j))]) [(0, Blk.mk true [IV.n4 n]), (1, Blk.mk true [IV.n4 x]), (2, Blk.mk true [IV.n4 a, IV.n4 b]), (3, Blk.mk true [IV.n4 c, IV.n4 d])] 16), 0 + (bl (val (ofN (fMul (val a % Pp) (val (ofN (v (val b % Pp))) % Pp))) % Pp) 32).length ≤ (bl (val (ofN (fMul (val a % Pp) (val (ofN (v (val b % Pp))) % Pp))) % Pp) 32).length]) := by kernel_rfl
theorem runMuK (G : N4 → N4 → N4 → N4 → N4 → L4) (v : Nat → Nat) (k u : BL) : fnS Try.prog (lookG (tblLb G v)) (orcA [(2, [(1, true)])]) [] 10 13 [sc (.d8 k), sc (.d8 u)] =
    some (AV.tup [(false, [IV.d8 (cutL [] 0 0 0)]), (false, [IV.i64 (1 : Int)])], [List.length k = List.length k, (!(clampV k).snd == (0 : Int)) = true, 0 ≤ 0]) := by kernel_rfl
theorem runMuU (G : N4 → N4 → N4 → N4 → N4 → L4) (v : Nat → Nat) (k u : BL) : fnS Try.prog (lookG (tblLb G v)) (orcA [(2, [(1, false), (5, true)])]) [] 10 13 [sc (.d8 k), sc (.d8 u)] =
    some (AV.tup [(false, [IV.d8 (cutL [] 0 0 0)]), (false, [IV.i64 (1 : Int)])], [List.length k = List.length k, (!(clampV k).snd == (0 : Int)) = false, (!(↑(List.length u) : Int) == (32 : Int)) = true, 0 ≤ 0]) := by kernel_rfl
theorem runRm (k u s : BL) (w : Nat) (l : L4) (i : Int) : fnS Try.prog (lookG tblLd) (orcA [(1, [(2, false), (6, false)])]) [⟨9, rmTd, .exit 0, rmInv s w l i⟩] 10 14 [sc (.d8 k), sc (.d8 u)] =
    some (AV.tup [(false, [IV.d8 (cutL (bl (fMul l.a (fInv l.b)) 32) 0 (bl (fMul l.a (fInv l.b)) 32).length (bl (fMul l.a (fInv l.b)) 32).length)]), (false, [IV.i64 (0 : Int)])], [(!(↑(List.length k) : Int) == (32 : Int)) = false, (!(↑(List.length u) : Int) == (32 : Int)) = false, List.length k = List.length k, List.length u = List.length u, 0 = 0, (0 + List.length u) * 1 ≤ 140737488355328 ∧ 0 + List.length u ≤ 9223372036854775807, (0 : Int) ≤ (31 : Int), 31 < 0 + List.length u, 31 < List.length u, (0 : Int) ≤ (31 : Int), 31 < 0 + List.length u, 31 < List.length u, 0 + List.length u = List.length u, (List.set u 31 (List.getD u 31 (BitVec.ofNat 8 0) % BitVec.ofNat 8 128)).length ≤ 4000000, (dg (bv (List.set u 31 (List.getD u 31 (BitVec.ofNat 8 0) % BitVec.ofNat 8 128)))).length = (dg (bv (List.set u 31 (List.getD u 31 (BitVec.ofNat 8 0) % BitVec.ofNat 8 128)))).length, (0 : Int) ≤ (1 : Int), (1 : Int) < (65536 : Int), (0 : Int) ≤ (0 : Int), (0 : Int) < (65536 : Int), (0 : Int) ≤ (1 : Int), (1 : Int) < (65536 : Int), LoopTo Try.prog (bodyAt Try.prog 14 9) (St.mk (slotsOf 132 [(6, sc (IV.sl 0 0 (List.length (clampV k).fst))), (9, sc (IV.ptr 1 0)), (10, sc (IV.ptr 2 0)), (11, sc (IV.ptr 3 0)), (12, sc (IV.ptr 4 0)), (13, sc (IV.ptr 5 0)), (14, sc (IV.i64 (254 : Int)))]) [(0, Blk.mk true [IV.v8 (List.length (clampV k).fst) (clampV k).fst]), (1, Blk.mk true [IV.fe (val (ofN (bv (List.set u 31 (List.getD u 31 (BitVec.ofNat 8 0) % BitVec.ofNat 8 128)))) % Pp)]), (2, Blk.mk true [IV.fe 1]), (3, Blk.mk true [IV.fe 0]), (4, Blk.mk true [IV.fe (val (ofN (bv (List.set u 31 (List.getD u 31 (BitVec.ofNat 8 0) % BitVec.ofNat 8 128)))) % Pp)]), (5, Blk.mk true [IV.fe 1])] 16) (Ex.exit 0) (St.mk (slotsOf 132 [(6, sc (IV.sl 0 0 (List.length s))), (9, sc (IV.ptr 1 0)), (10, sc (IV.ptr 2 0)), (11, sc (IV.ptr 3 0)), (12, sc (IV.ptr 4 0)), (13, sc (IV.ptr 5 0)), (14, sc (IV.i64 i))]) [(0, Blk.mk true [IV.v8 (List.length s) s]), (1, Blk.mk true [IV.fe w]), (2, Blk.mk true [IV.fe l.a]), (3, Blk.mk true [IV.fe l.b]), (4, Blk.mk true [IV.fe l.c]), (5, Blk.mk true [IV.fe l.d])] 16), l.b < Pp, l.a < Pp, fInv l.b < Pp, fMul l.a (fInv l.b) < p256, 0 + (bl (fMul l.a (fInv l.b)) 32).length ≤ (bl (fMul l.a (fInv l.b)) 32).length]) := by kernel_rfl
theorem runRmK (k u : BL) : fnS Try.prog (lookG tblLd) (orcA [(1, [(2, true)])]) [] 10 14 [sc (.d8 k), sc (.d8 u)] =
    some (AV.tup [(false, [IV.d8 (cutL [] 0 0 0)]), (false, [IV.i64 (1 : Int)])], [(!(↑(List.length k) : Int) == (32 : Int)) = true, 0 ≤ 0]) := by kernel_rfl
theorem runRmU (k u : BL) : fnS Try.prog (lookG tblLd) (orcA [(1, [(2, false), (6, true)])]) [] 10 14 [sc (.d8 k), sc (.d8 u)] =
    some (AV.tup [(false, [IV.d8 (cutL [] 0 0 0)]), (false, [IV.i64 (1 : Int)])], [(!(↑(List.length k) : Int) == (32 : Int)) = false, (!(↑(List.length u) : Int) == (32 : Int)) = true, 0 ≤ 0]) := by kernel_rfl
/-! ### The ladder -/
def ladS (u : Nat) (s : BL) : Nat → L4
  | 0 => ⟨1, 0, u, 1⟩
  | j + 1 => lr (decide (bitB s (254 - j) = 1)) u (ladS u s j)
def L4.Lt (l : L4) : Prop := l.a < Pp ∧ l.b < Pp ∧ l.c < Pp ∧ l.d < Pp
theorem lstep_lt (u : Nat) (l : L4) : (lstep u l).Lt := ⟨fMul_lt _ _, fMul_lt _ _, fMul_lt _ _, fMul_lt _ _⟩
theorem lswap_lt (t : Bool) {l : L4} (h : l.Lt) : (lswap t l).Lt := by
  unfold lswap
  split
  · exact ⟨h.2.2.1, h.2.2.2, h.1, h.2.1⟩
  · exact h
theorem ladS_lt {u : Nat} (hu : u < Pp) (s : BL) : ∀ j, (ladS u s j).Lt
  | 0 => ⟨one_lt, Pp_pos, hu, one_lt⟩
  | _ + 1 => lswap_lt _ (lstep_lt _ _)
structure Q4 where
  a : N4
  b : N4
  c : N4
  d : N4
def q4 (l : L4) : Q4 := ⟨ofN l.a, ofN l.b, ofN l.c, ofN l.d⟩
def mod4 (q : Q4) : L4 := ⟨val q.a % Pp, val q.b % Pp, val q.c % Pp, val q.d % Pp⟩
theorem mod4_q4 {l : L4} (h : l.Lt) : mod4 (q4 l) = l := by
  unfold mod4 q4
  simp only [val_lo h.1, val_lo h.2.1, val_lo h.2.2.1, val_lo h.2.2.2, Nat.mod_eq_of_lt h.1, Nat.mod_eq_of_lt h.2.1, Nat.mod_eq_of_lt h.2.2.1, Nat.mod_eq_of_lt h.2.2.2]
def muSt (n x : N4) (q : Q4) (i j : Int) : St := muInv n x q.a q.b q.c q.d i j
theorem muNext (n x : N4) (q : Q4) (i j : Int) : muInv n x
    (if bitN n i = BitVec.ofNat 64 0 then ofN (l4N x (if bitN n i = BitVec.ofNat 64 0 then q.a else q.c) (if bitN n i = BitVec.ofNat 64 0 then q.b else q.d) (if bitN n i = BitVec.ofNat 64 0 then q.c else q.a) (if bitN n i = BitVec.ofNat 64 0 then q.d else q.b)).a else ofN (l4N x (if bitN n i = BitVec.ofNat 64 0 then q.a else q.c) (if bitN n i = BitVec.ofNat 64 0 then q.b else q.d) (if bitN n i = BitVec.ofNat 64 0 then q.c else q.a) (if bitN n i = BitVec.ofNat 64 0 then q.d else q.b)).c)
    (if bitN n i = BitVec.ofNat 64 0 then ofN (l4N x (if bitN n i = BitVec.ofNat 64 0 then q.a else q.c) (if bitN n i = BitVec.ofNat 64 0 then q.b else q.d) (if bitN n i = BitVec.ofNat 64 0 then q.c else q.a) (if bitN n i = BitVec.ofNat 64 0 then q.d else q.b)).b else ofN (l4N x (if bitN n i = BitVec.ofNat 64 0 then q.a else q.c) (if bitN n i = BitVec.ofNat 64 0 then q.b else q.d) (if bitN n i = BitVec.ofNat 64 0 then q.c else q.a) (if bitN n i = BitVec.ofNat 64 0 then q.d else q.b)).d)
    (if bitN n i = BitVec.ofNat 64 0 then ofN (l4N x (if bitN n i = BitVec.ofNat 64 0 then q.a else q.c) (if bitN n i = BitVec.ofNat 64 0 then q.b else q.d) (if bitN n i = BitVec.ofNat 64 0 then q.c else q.a) (if bitN n i = BitVec.ofNat 64 0 then q.d else q.b)).c else ofN (l4N x (if bitN n i = BitVec.ofNat 64 0 then q.a else q.c) (if bitN n i = BitVec.ofNat 64 0 then q.b else q.d) (if bitN n i = BitVec.ofNat 64 0 then q.c else q.a) (if bitN n i = BitVec.ofNat 64 0 then q.d else q.b)).a)
    (if bitN n i = BitVec.ofNat 64 0 then ofN (l4N x (if bitN n i = BitVec.ofNat 64 0 then q.a else q.c) (if bitN n i = BitVec.ofNat 64 0 then q.b else q.d) (if bitN n i = BitVec.ofNat 64 0 then q.c else q.a) (if bitN n i = BitVec.ofNat 64 0 then q.d else q.b)).d else ofN (l4N x (if bitN n i = BitVec.ofNat 64 0 then q.a else q.c) (if bitN n i = BitVec.ofNat 64 0 then q.b else q.d) (if bitN n i = BitVec.ofNat 64 0 then q.c else q.a) (if bitN n i = BitVec.ofNat 64 0 then q.d else q.b)).b) (i - 1) j
    = muSt n x (q4 (lr (decide (bitN n i ≠ BitVec.ofNat 64 0)) (val x % Pp) (mod4 q))) (i - 1) j := by
  by_cases h : bitN n i = BitVec.ofNat 64 0
  · simp only [h, if_true, ne_eq, not_true_eq_false, decide_false]
    rfl
  · simp only [h, if_false, ne_eq, not_false_eq_true, decide_true]
    rfl
theorem muRound2 (n x : N4) (q : Q4) (i j : Int) : roundS Try.prog (lookG (tblLb l4N fInv)) (orcA [(10, [(0, true)]), (16, [(1, false)])]) [] 10 muTd (bodyAt Try.prog 13 10) (muSt n x q i j) =
    some (Ex.normal, muSt n x (q4 (lr (decide (bitN n i ≠ BitVec.ofNat 64 0)) (val x % Pp) (mod4 q))) (i - 1) (j + 1), [decide (j < (255 : Int)) = true, inI64 (i - (1 : Int)), decide (i - (1 : Int) < (0 : Int)) = false, inI64 (j + (1 : Int))]) :=
  (muRound l4N fInv n x q.a q.b q.c q.d i j).trans (congrArg (fun z => some (Ex.normal, z, [decide (j < (255 : Int)) = true, inI64 (i - (1 : Int)), decide (i - (1 : Int) < (0 : Int)) = false, inI64 (j + (1 : Int))])) (muNext n x q i (j + 1)))
theorem muLast2 (n x : N4) (q : Q4) (i j : Int) : roundS Try.prog (lookG (tblLb l4N fInv)) (orcA [(10, [(0, true)]), (16, [(1, true)])]) [] 10 muTd (bodyAt Try.prog 13 10) (muSt n x q i j) =
    some (Ex.exit 0, muSt n x (q4 (lr (decide (bitN n i ≠ BitVec.ofNat 64 0)) (val x % Pp) (mod4 q))) (i - 1) j, [decide (j < (255 : Int)) = true, inI64 (i - (1 : Int)), decide (i - (1 : Int) < (0 : Int)) = true]) :=
  (muLast l4N fInv n x q.a q.b q.c q.d i j).trans (congrArg (fun z => some (Ex.exit 0, z, [decide (j < (255 : Int)) = true, inI64 (i - (1 : Int)), decide (i - (1 : Int) < (0 : Int)) = true])) (muNext n x q i j))
theorem bv32 {s : BL} (hs : s.length = 32) : bv s < p256 := by
  have := bv_lt s
  rwa [hs, show (256 : Nat) ^ 32 = p256 by decide] at this
theorem bit_eq {s : BL} (hs : s.length = 32) (j : Nat) (hj : j < 255) : decide (bitN (ofN (bv s)) ((254 : Int) - (j : Nat)) ≠ BitVec.ofNat 64 0) = decide (bitB s (254 - j) = 1) := by
  have hv : val (ofN (bv s)) = bv s := by rw [val_ofN]; exact Nat.mod_eq_of_lt (bv32 hs)
  have hi : ((254 : Int) - (j : Nat)).toNat = 254 - j := by omega
  unfold bitN bitB
  rw [if_neg (by omega), hv, hi]
  have h2 : bv s / 2 ^ (254 - j) % 2 < 2 := Nat.mod_lt _ (by omega)
  rcases (by omega : bv s / 2 ^ (254 - j) % 2 = 0 ∨ bv s / 2 ^ (254 - j) % 2 = 1) with e | e <;> rw [e] <;> decide
def qq (x : N4) (s : BL) : Nat → Q4
  | 0 => ⟨⟨BitVec.ofNat 64 1, BitVec.ofNat 64 0, BitVec.ofNat 64 0, BitVec.ofNat 64 0⟩, ⟨BitVec.ofNat 64 0, BitVec.ofNat 64 0, BitVec.ofNat 64 0, BitVec.ofNat 64 0⟩, x, ⟨BitVec.ofNat 64 1, BitVec.ofNat 64 0, BitVec.ofNat 64 0, BitVec.ofNat 64 0⟩⟩
  | j + 1 => q4 (ladS (val x % Pp) s (j + 1))
theorem qq_mod (x : N4) (s : BL) : ∀ j, mod4 (qq x s j) = ladS (val x % Pp) s j
  | 0 => by
    show L4.mk _ _ _ _ = L4.mk 1 0 (val x % Pp) 1
    rw [show val (qq x s 0).a % Pp = 1 by kernel_rfl, show val (qq x s 0).b % Pp = 0 by kernel_rfl, show val (qq x s 0).d % Pp = 1 by kernel_rfl]
    rfl
  | j + 1 => mod4_q4 (ladS_lt (Nat.mod_lt _ Pp_pos) s (j + 1))
theorem muLoop (s : BL) (hs : s.length = 32) (x : N4) : LoopTo Try.prog (bodyAt Try.prog 13 10) (muSt (ofN (bv s)) x (qq x s 0) 254 0) (.exit 0) (muSt (ofN (bv s)) x (qq x s 255) (-1) 254) := by
  have h0 : muSt (ofN (bv s)) x (qq x s 0) 254 0 = muSt (ofN (bv s)) x (qq x s 0) ((254 : Int) - (0 : Nat)) (0 : Nat) := rfl
  rw [h0]
  refine LoopTo.intro (α := Nat) gsLb fol (fun j => muSt (ofN (bv s)) x (qq x s j) ((254 : Int) - (j : Nat)) (j : Nat)) (fun j => j ≤ 254) (fun j => 254 - j) (by simp) ?_ 0 (by simp)
  intro j hj
  have hb := bit_eq hs j (by omega)
  have he : q4 (lr (decide (bitN (ofN (bv s)) ((254 : Int) - (j : Nat)) ≠ BitVec.ofNat 64 0)) (val x % Pp) (mod4 (qq x s j))) = qq x s (j + 1) := by
    rw [hb, qq_mod]; rfl
  have e1 : (254 : Int) - (j : Nat) - 1 = (254 : Int) - ((j + 1 : Nat) : Int) := by omega
  have e2 : ((j : Nat) : Int) + 1 = ((j + 1 : Nat) : Int) := by omega
  by_cases h254 : j = 254
  · right
    have r0 := muLast2 (ofN (bv s)) x (qq x s j) ((254 : Int) - (j : Nat)) (j : Nat)
    rw [he] at r0
    subst h254
    exact ⟨_, _, _, _, _, r0, decide_eq_true (by omega), by unfold inI64; omega, decide_eq_true (by omega), trivial⟩
  · left
    have r0 := muRound2 (ofN (bv s)) x (qq x s j) ((254 : Int) - (j : Nat)) (j : Nat)
    rw [he, e1, e2] at r0
    exact ⟨_, _, _, _, _, j + 1, r0, ⟨decide_eq_true (by omega), by unfold inI64; omega, decide_eq_false (by omega), by unfold inI64; omega, trivial⟩, by omega, by omega⟩
theorem rmLoop (s : BL) (hs : s.length = 32) (u : Nat) (hu : u < Pp) : LoopTo Try.prog (bodyAt Try.prog 14 9) (rmInv s u ⟨1, 0, u, 1⟩ 254) (.exit 0) (rmInv s u (ladS u s 255) (-1)) := by
  have h0 : rmInv s u ⟨1, 0, u, 1⟩ 254 = rmInv s u (ladS u s 0) ((254 : Int) - (0 : Nat)) := rfl
  rw [h0]
  refine LoopTo.intro (α := Nat) gsLd fol (fun j => rmInv s u (ladS u s j) ((254 : Int) - (j : Nat))) (fun j => j ≤ 255) (fun j => 255 - j) (by simp) ?_ 0 (by simp)
  intro j hj
  have hl := ladS_lt hu s j
  have e1 : (254 : Int) - (j : Nat) - 1 = (254 : Int) - ((j + 1 : Nat) : Int) := by omega
  have hi : ((254 : Int) - (j : Nat)).toNat = 254 - j := by omega
  have b2 : bitB s (254 - j) < 2 := Nat.mod_lt _ (by omega)
  by_cases he : j = 255
  · subst he
    exact .inr ⟨_, _, _, _, _, rmExit _ _ _ _, decide_eq_false (by omega), trivial⟩
  · left
    have c1 : (65535 : Nat) < Pp := by decide
    have c2 : (56130 : Nat) < Pp := by decide
    have c3 : (121665 : Nat) < Pp := by decide
    obtain ⟨l1, l2, l3, l4⟩ := hl
    by_cases hb : bitB s (254 - j) = 1
    · have r0 := rmRound1 s u (ladS u s j) ((254 : Int) - (j : Nat))
      rw [e1, hi, hb] at r0
      refine ⟨_, _, _, _, _, j + 1, r0.trans (congrArg (fun z => some (Ex.normal, z, _)) ?_), ?_, by omega, by omega⟩
      · have hs1 : ladS u s (j + 1) = lr true u (ladS u s j) := by rw [ladS, hb]; rfl
        rw [hs1]
        rfl
      · clear r0
        simp only [AllP, inI64, hs]
        and_intros <;> first | exact True.intro | with_reducible rfl | exact fMul_lt _ _ | exact fAdd_lt _ _ | exact fSub_lt _ _ | with_reducible assumption | exact decide_eq_true (by omega) | omega | rfl
    · have hb0 : bitB s (254 - j) = 0 := by omega
      have r0 := rmRound0 s u (ladS u s j) ((254 : Int) - (j : Nat))
      rw [e1, hi, hb0] at r0
      refine ⟨_, _, _, _, _, j + 1, r0.trans (congrArg (fun z => some (Ex.normal, z, _)) ?_), ?_, by omega, by omega⟩
      · have hs1 : ladS u s (j + 1) = lr false u (ladS u s j) := by rw [ladS, hb0]; rfl
        rw [hs1]
        rfl
      · clear r0
        simp only [AllP, inI64, hs]
        and_intros <;> first | exact True.intro | with_reducible rfl | exact fMul_lt _ _ | exact fAdd_lt _ _ | exact fSub_lt _ _ | with_reducible assumption | exact decide_eq_true (by omega) | omega | rfl
/-! ### What the ladder makes of a secret and a number -/
def ladX (u : BL) : Nat := bv u % 57896044618658097711785492504343953926634992332820282019728792003956564819968 % Pp
def ladB (k u : BL) : BL := bl (fMul (ladS (ladX u) (clampL k) 255).a (fInv (ladS (ladX u) (clampL k) 255).b)) 32
def multV (k u : BL) : BL × Int := if k.length = 32 ∧ u.length = 32 then (ladB k u, 0) else ([], 1)
def spLMult : List AV → Option (AV × List Prop)
  | [.val false [.d8 k], .val false [.d8 u]] => some (.tup [(false, [.d8 (multV k u).1]), (false, [.i64 (multV k u).2])], [])
  | _ => none
theorem set3 (x : N4) : val (x.set 3 (x.get 3 &&& BitVec.ofNat 64 9223372036854775807)) = val x % 57896044618658097711785492504343953926634992332820282019728792003956564819968 := by
  have h : (x.w3 &&& BitVec.ofNat 64 9223372036854775807).toNat = x.w3.toNat % 9223372036854775808 := by
    rw [BitVec.toNat_and]
    exact Nat.and_two_pow_sub_one_eq_mod _ 63
  have h0 := x.w0.isLt
  have h1 := x.w1.isLt
  have h2 := x.w2.isLt
  have h3 := x.w3.isLt
  show val ⟨x.w0, x.w1, x.w2, x.w3 &&& BitVec.ofNat 64 9223372036854775807⟩ = _
  unfold val
  simp only [h]
  generalize x.w0.toNat = a at *
  generalize x.w1.toNat = b at *
  generalize x.w2.toNat = c at *
  generalize x.w3.toNat = d at *
  omega
theorem bv_set31 {u : BL} (hu : u.length = 32) : bv (u.set 31 (u.getD 31 0#8 % 128#8)) = bv u % 57896044618658097711785492504343953926634992332820282019728792003956564819968 := by
  have e : u = u.take 31 ++ [u.getD 31 0#8] := by
    have h : u.drop 31 = [u.getD 31 0#8] := by
      rw [List.drop_eq_getElem_cons (by omega), List.drop_of_length_le (by omega), List.getD_eq_getElem?_getD, List.getElem?_eq_getElem (by omega)]
      rfl
    rw [← h, List.take_append_drop]
  have l31 : (u.take 31).length = 31 := by rw [List.length_take]; omega
  generalize u.getD 31 0#8 = y at *
  have hp : (256 : Nat) ^ 31 = 452312848583266388373324160190187140051835877600158453279131187530910662656 := by decide
  have hlt := bv_lt (u.take 31)
  rw [l31, hp] at hlt
  generalize u.take 31 = m at *
  subst e
  rw [List.set_append_right _ _ (by omega), l31]
  show bv (m ++ [y % 128#8]) = bv (m ++ [y]) % _
  have hm : (y % 128#8).toNat = y.toNat % 128 := by rw [BitVec.toNat_umod]; rfl
  have hy := y.isLt
  rw [bv_append, bv_append, l31, hp]
  simp only [bv, hm]
  generalize bv m = z at *
  generalize y.toNat = w at *
  omega
theorem ct_mult_prog : CtSOk Try.prog 13 (.fn spLMult) := FnS_of_fnS gsLb fol fun ds r cs h hc => by
  unfold spLMult at h
  split at h
  case h_2 => simp at h
  rename_i k u
  simp only [Option.some.injEq, Prod.mk.injEq] at h
  obtain ⟨rfl, rfl⟩ := h
  by_cases hk : k.length = 32
  · have ek : clampV k = (clampL k, 0) := by rw [clampV, if_pos hk]
    by_cases hu : u.length = 32
    · have hs : (clampL k).length = 32 := by rw [clampL_len, hk]
      have fs : (fromV (clampL k)).1 = ofN (bv (clampL k)) := by rw [fromV, if_pos (by omega)]
      have fu : (fromV u).1 = ofN (bv u) := by rw [fromV, if_pos (by omega)]
      have hvu : val (ofN (bv u)) = bv u := by rw [val_ofN]; exact Nat.mod_eq_of_lt (bv32 hu)
      obtain ⟨x, hx⟩ : ∃ x, x = (ofN (bv u)).set 3 ((ofN (bv u)).get 3 &&& BitVec.ofNat 64 9223372036854775807) := ⟨_, rfl⟩
      have hxv : val x % Pp = ladX u := by rw [hx, set3, hvu]; rfl
      have lp := muLoop (clampL k) hs x
      have hl := ladS_lt (u := ladX u) (Nat.mod_lt _ Pp_pos) (clampL k) 255
      have hq : qq x (clampL k) 255 = q4 (ladS (ladX u) (clampL k) 255) := by rw [← hxv]; rfl
      rw [hq] at lp
      have r0 := runMu l4N fInv k u (ofN (bv (clampL k))) x (ofN (ladS (ladX u) (clampL k) 255).a) (ofN (ladS (ladX u) (clampL k) 255).b) (ofN (ladS (ladX u) (clampL k) 255).c) (ofN (ladS (ladX u) (clampL k) 255).d) (-1) 254
      rw [ek] at r0
      dsimp only at r0
      rw [fs, fu, ← hx] at r0
      simp only [val_lo hl.1, val_lo hl.2.1, Nat.mod_eq_of_lt hl.1, Nat.mod_eq_of_lt hl.2.1, val_lo (fInv_lt _), Nat.mod_eq_of_lt (fInv_lt _), vmM, cutL_all] at r0
      refine use_run r0 (by rw [multV, if_pos ⟨hk, hu⟩]; rfl) ?_
      clear r0
      simp only [AllP]
      and_intros <;> first | exact True.intro | with_reducible rfl | exact lp | exact lcT hu | omega | rfl
    · have r0 := runMuU l4N fInv k u
      rw [ek] at r0
      exact use_run r0 (by rw [multV, if_neg (fun h => hu h.2)]; rfl) ⟨rfl, rfl, lcF hu, by omega, trivial⟩
  · have ek : clampV k = ([], 1) := by rw [clampV, if_neg hk]
    have r0 := runMuK l4N fInv k u
    rw [ek] at r0
    exact use_run r0 (by rw [multV, if_neg (fun h => hk h.1)]; rfl) ⟨rfl, rfl, by omega, trivial⟩
theorem ct_mult_doc : CtSOk Try.prog 14 (.fn spLMult) := FnS_of_fnS gsLd fol fun ds r cs h hc => by
  unfold spLMult at h
  split at h
  case h_2 => simp at h
  rename_i k u
  simp only [Option.some.injEq, Prod.mk.injEq] at h
  obtain ⟨rfl, rfl⟩ := h
  by_cases hk : k.length = 32
  · have ek : clampV k = (clampL k, 0) := by rw [clampV, if_pos hk]
    by_cases hu : u.length = 32
    · have hs : (clampL k).length = 32 := by rw [clampL_len, hk]
      have hx0 := bv_set31 hu
      have hvu : val (ofN (bv (u.set 31 (u.getD 31 0#8 % 128#8)))) % Pp = ladX u := by
        rw [val_ofN, hx0, Nat.mod_eq_of_lt (Nat.lt_of_lt_of_le (Nat.mod_lt _ (by omega)) (by decide : (57896044618658097711785492504343953926634992332820282019728792003956564819968 : Nat) ≤ p256))]
        rfl
      have hlt : ladX u < Pp := Nat.mod_lt _ Pp_pos
      have lp := rmLoop (clampL k) hs (ladX u) hlt
      have hl := ladS_lt (u := ladX u) hlt (clampL k) 255
      have hV : multV k u = (ladB k u, 0) := by rw [multV, if_pos ⟨hk, hu⟩]
      unfold ladB at hV
      generalize ladS (ladX u) (clampL k) 255 = l at *
      generalize ladX u = x at *
      have r0 := runRm k u (clampL k) x l (-1)
      rw [ek, hvu] at r0
      dsimp only at r0
      rw [cutL_all] at r0
      refine use_run r0 (by rw [hV]) ?_
      clear r0
      have hm := lt256 (fMul_lt l.a (fInv l.b))
      have ls : (u.set 31 (u.getD 31 (BitVec.ofNat 8 0) % BitVec.ofNat 8 128)).length ≤ 4000000 := by rw [List.length_set]; omega
      exact ⟨lcT hk, lcT hu, rfl, rfl, rfl, ⟨by omega, by omega⟩, by omega, by omega, by omega, by omega, by omega, by omega, by omega, ls, rfl, by omega, by omega, by omega, by omega, by omega, by omega, lp, hl.2.1, hl.1, fInv_lt _, hm, Nat.le_of_eq (Nat.zero_add _), trivial⟩
    · exact use_run (runRmU k u) (by rw [multV, if_neg (fun h => hu h.2)]; rfl) ⟨lcT hk, lcF hu, by omega, trivial⟩
  · exact use_run (runRmK k u) (by rw [multV, if_neg (fun h => hk h.1)]; rfl) ⟨lcF hk, by omega, trivial⟩
end Go.Proofs.Ytpeplakhcgaajaa
/- Contracts of layer 5: public and shared numbers, the statements' own functions. Own work. -/
namespace Go.Proofs.Ytpeplakhcgaajaa
open Go.Ev Go.Sp Go.RowKit
set_option maxRecDepth 100000
def spMultG (f : BL → BL → BL × Int) : List AV → Option (AV × List Prop)
  | [.val false [.d8 k], .val false [.d8 u]] => some (.tup [(false, [.d8 (f k u).1]), (false, [.i64 (f k u).2])], [])
  | _ => none
def tblLe0 : List (FuncId × CtS) := [(36, .fn (orD spNTold)), (28, .fn spNRead)]
theorem okLe0 : TblOk Try.prog tblLe0 := ⟨⟨FnS_orD nTold, by kernel_rfl⟩, ⟨nRead, by kernel_rfl⟩, trivial⟩
theorem gsLe0 : GSound Try.prog (upG (lookG tblLe0)) := GSound_of_tbl okLe0
def tblLe (f : BL → BL → BL × Int) : List (FuncId × CtS) :=
  (13, .fn (spMultG f)) :: (14, .fn (spMultG f)) :: tblLe0
theorem gsLe : GSound Try.prog (upG (lookG (tblLe multV))) := GSound_of_tbl ⟨⟨ct_mult_prog, by kernel_rfl⟩, ⟨ct_mult_doc, by kernel_rfl⟩, okLe0⟩
theorem runPub (f : BL → BL → BL × Int) (k : BL) : fnS Try.prog (lookG (tblLe f)) (orcA []) [] 10 17 [sc (.d8 k)] =
    some (AV.tup [(false, [IV.d8 (cutL (f k ((List.replicate (Int.toNat (32 : Int)) (BitVec.ofInt 8 (0 : Int))).set (0 + Int.toNat (0 : Int) * (fun x => x.size) Try.prog.types[5]) (BitVec.ofInt 8 (9 : Int)))).fst 0 (List.length (f k ((List.replicate (Int.toNat (32 : Int)) (BitVec.ofInt 8 (0 : Int))).set (0 + Int.toNat (0 : Int) * (fun x => x.size) Try.prog.types[5]) (BitVec.ofInt 8 (9 : Int)))).fst) (List.length (f k ((List.replicate (Int.toNat (32 : Int)) (BitVec.ofInt 8 (0 : Int))).set (0 + Int.toNat (0 : Int) * (fun x => x.size) Try.prog.types[5]) (BitVec.ofInt 8 (9 : Int)))).fst))]), (false, [IV.i64 (f k ((List.replicate (Int.toNat (32 : Int)) (BitVec.ofInt 8 (0 : Int))).set (0 + Int.toNat (0 : Int) * (fun x => x.size) Try.prog.types[5]) (BitVec.ofInt 8 (9 : Int)))).snd])], [(0 : Int) ≤ (32 : Int), (0 : Int) ≤ (32 : Int), 32 = 32 ∧ 32 ≤ 281474976710656 ∧ 32 ≤ 9223372036854775807, (0 : Int) ≤ (0 : Int), 0 < 32, 0 < 32, List.length k = List.length k, 32 = 32, 0 + List.length (f k ((List.replicate (Int.toNat (32 : Int)) (BitVec.ofInt 8 (0 : Int))).set (0 + Int.toNat (0 : Int) * (fun x => x.size) Try.prog.types[5]) (BitVec.ofInt 8 (9 : Int)))).fst ≤ List.length (f k ((List.replicate (Int.toNat (32 : Int)) (BitVec.ofInt 8 (0 : Int))).set (0 + Int.toNat (0 : Int) * (fun x => x.size) Try.prog.types[5]) (BitVec.ofInt 8 (9 : Int)))).fst]) := by kernel_rfl
theorem runNine  : fnS Try.prog (lookG tblLe0) (orcA []) [] 10 18 [] =
    some (sc (IV.d8 (cutL (bl 9 32) 0 32 32)), [1 = 1, (0 : Int) ≤ (32 : Int), (32 : Int) ≤ (4000000 : Int), (List.replicate 1 (0 : Int)).set 0 (9 : Int) = dg 9, 32 ≤ 32]) := by kernel_rfl
theorem runShO (f : BL → BL → BL × Int) (k u : BL) : fnS Try.prog (lookG (tblLe f)) (orcA [(2, [(1, false)]), (4, [(4, false)])]) [] 10 15 [sc (.d8 k), sc (.d8 u)] =
    some (AV.tup [(false, [IV.d8 (cutL (f k u).fst 0 (List.length (f k u).fst) (List.length (f k u).fst))]), (false, [IV.i64 (0 : Int)])], [List.length k = List.length k, List.length u = List.length u, (!(f k u).snd == (0 : Int)) = false, 0 < 32 ∧ 32 ≤ List.length (f k u).fst, List.length (f k u).fst = 32, ((f k u).fst == [BitVec.ofNat 8 0, BitVec.ofNat 8 0, BitVec.ofNat 8 0, BitVec.ofNat 8 0, BitVec.ofNat 8 0, BitVec.ofNat 8 0, BitVec.ofNat 8 0, BitVec.ofNat 8 0, BitVec.ofNat 8 0, BitVec.ofNat 8 0, BitVec.ofNat 8 0, BitVec.ofNat 8 0, BitVec.ofNat 8 0, BitVec.ofNat 8 0, BitVec.ofNat 8 0, BitVec.ofNat 8 0, BitVec.ofNat 8 0, BitVec.ofNat 8 0, BitVec.ofNat 8 0, BitVec.ofNat 8 0, BitVec.ofNat 8 0, BitVec.ofNat 8 0, BitVec.ofNat 8 0, BitVec.ofNat 8 0, BitVec.ofNat 8 0, BitVec.ofNat 8 0, BitVec.ofNat 8 0, BitVec.ofNat 8 0, BitVec.ofNat 8 0, BitVec.ofNat 8 0, BitVec.ofNat 8 0, BitVec.ofNat 8 0] && true) = false, 0 + List.length (f k u).fst ≤ List.length (f k u).fst]) := by kernel_rfl
theorem runShZ (f : BL → BL → BL × Int) (k u : BL) : fnS Try.prog (lookG (tblLe f)) (orcA [(2, [(1, false)]), (4, [(4, true)])]) [] 10 15 [sc (.d8 k), sc (.d8 u)] =
    some (AV.tup [(false, [IV.d8 (cutL [] 0 0 0)]), (false, [IV.i64 (8 : Int)])], [List.length k = List.length k, List.length u = List.length u, (!(f k u).snd == (0 : Int)) = false, 0 < 32 ∧ 32 ≤ List.length (f k u).fst, List.length (f k u).fst = 32, ((f k u).fst == [BitVec.ofNat 8 0, BitVec.ofNat 8 0, BitVec.ofNat 8 0, BitVec.ofNat 8 0, BitVec.ofNat 8 0, BitVec.ofNat 8 0, BitVec.ofNat 8 0, BitVec.ofNat 8 0, BitVec.ofNat 8 0, BitVec.ofNat 8 0, BitVec.ofNat 8 0, BitVec.ofNat 8 0, BitVec.ofNat 8 0, BitVec.ofNat 8 0, BitVec.ofNat 8 0, BitVec.ofNat 8 0, BitVec.ofNat 8 0, BitVec.ofNat 8 0, BitVec.ofNat 8 0, BitVec.ofNat 8 0, BitVec.ofNat 8 0, BitVec.ofNat 8 0, BitVec.ofNat 8 0, BitVec.ofNat 8 0, BitVec.ofNat 8 0, BitVec.ofNat 8 0, BitVec.ofNat 8 0, BitVec.ofNat 8 0, BitVec.ofNat 8 0, BitVec.ofNat 8 0, BitVec.ofNat 8 0, BitVec.ofNat 8 0] && true) = true, 0 ≤ 0]) := by kernel_rfl
theorem runShE (f : BL → BL → BL × Int) (k u : BL) : fnS Try.prog (lookG (tblLe f)) (orcA [(2, [(1, true)])]) [] 10 15 [sc (.d8 k), sc (.d8 u)] =
    some (AV.tup [(false, [IV.d8 (cutL [] 0 0 0)]), (false, [IV.i64 (f k u).snd])], [List.length k = List.length k, List.length u = List.length u, (!(f k u).snd == (0 : Int)) = true, 0 ≤ 0]) := by kernel_rfl
theorem runRShO (f : BL → BL → BL × Int) (k u : BL) : fnS Try.prog (lookG (tblLe f)) (orcA [(2, [(1, false)]), (4, [(3, false)])]) [] 10 16 [sc (.d8 k), sc (.d8 u)] =
    some (AV.tup [(false, [IV.d8 (cutL (f k u).fst 0 (List.length (f k u).fst) (List.length (f k u).fst))]), (false, [IV.i64 (0 : Int)])], [List.length k = List.length k, List.length u = List.length u, (!(f k u).snd == (0 : Int)) = false, List.length (f k u).fst = List.length (f k u).fst, List.length (f k u).fst ≤ 4000000, ((↑(dg (bv (f k u).fst)).length : Int) == (0 : Int)) = false, 0 + List.length (f k u).fst ≤ List.length (f k u).fst]) := by kernel_rfl
theorem runRShZ (f : BL → BL → BL × Int) (k u : BL) : fnS Try.prog (lookG (tblLe f)) (orcA [(2, [(1, false)]), (4, [(3, true)])]) [] 10 16 [sc (.d8 k), sc (.d8 u)] =
    some (AV.tup [(false, [IV.d8 (cutL [] 0 0 0)]), (false, [IV.i64 (8 : Int)])], [List.length k = List.length k, List.length u = List.length u, (!(f k u).snd == (0 : Int)) = false, List.length (f k u).fst = List.length (f k u).fst, List.length (f k u).fst ≤ 4000000, ((↑(dg (bv (f k u).fst)).length : Int) == (0 : Int)) = true, 0 ≤ 0]) := by kernel_rfl
theorem runRShE (f : BL → BL → BL × Int) (k u : BL) : fnS Try.prog (lookG (tblLe f)) (orcA [(2, [(1, true)])]) [] 10 16 [sc (.d8 k), sc (.d8 u)] =
    some (AV.tup [(false, [IV.d8 (cutL [] 0 0 0)]), (false, [IV.i64 (f k u).snd])], [List.length k = List.length k, List.length u = List.length u, (!(f k u).snd == (0 : Int)) = true, 0 ≤ 0]) := by kernel_rfl
theorem runOwn (b : BL) : fnS Try.prog (lookG []) (orcA []) [] 10 9 [sc (.d8 b)] =
    some (sc (IV.d8 (cutL b 0 (0 + List.length b) (List.length b))), [List.length b = List.length b, 0 = 0, (0 + List.length b) * 1 ≤ 140737488355328 ∧ 0 + List.length b ≤ 9223372036854775807, 0 + (0 + List.length b) ≤ List.length b]) := by kernel_rfl
def zero32 : BL := List.replicate 32 0#8
def nine32 : BL := bl 9 32
theorem nine_eq : (List.replicate (Int.toNat (32 : Int)) (BitVec.ofInt 8 (0 : Int))).set 0 (BitVec.ofInt 8 (9 : Int)) = nine32 := by kernel_rfl
theorem nine_dg : (List.replicate 1 (0 : Int)).set 0 (9 : Int) = dg 9 := by rw [dg_pos (by omega), dg_zero]; rfl
theorem bv_zero32 : bv zero32 = 0 := by kernel_rfl
theorem zero_iff {b : BL} (h : b.length = 32) : bv b = 0 ↔ b = zero32 := by
  constructor
  · intro h0
    exact bv_inj (by rw [h]; rfl) (by rw [h0, bv_zero32])
  · rintro rfl; exact bv_zero32
theorem dg_len0 (n : Nat) : (dg n).length = 0 ↔ n = 0 := by
  constructor
  · intro h
    by_cases h0 : n = 0
    · exact h0
    · rw [dg_pos h0] at h; simp at h
  · rintro rfl; rw [dg_zero]; rfl
theorem multV_len {k u : BL} (h : (multV k u).2 = 0) : (multV k u).1.length = 32 := by
  unfold multV at *
  split at h
  · rename_i hc
    rw [if_pos hc]
    exact bl_length _ _
  · simp at h
def sharedV (k u : BL) : BL × Int := if (multV k u).2 ≠ 0 then ([], (multV k u).2) else if (multV k u).1 = zero32 then ([], 8) else ((multV k u).1, 0)
def spPubl : List AV → Option (AV × List Prop)
  | [.val false [.d8 k]] => some (.tup [(false, [.d8 (multV k nine32).1]), (false, [.i64 (multV k nine32).2])], [])
  | _ => none
theorem ctPubl : CtSOk Try.prog 17 (.fn spPubl) := FnS_of_fnS gsLe fol fun ds r cs h hc => by
  unfold spPubl at h
  split at h
  case h_2 => simp at h
  rename_i k
  simp only [Option.some.injEq, Prod.mk.injEq] at h
  obtain ⟨rfl, rfl⟩ := h
  have r0 := runPub multV k
  have e : (List.replicate (Int.toNat (32 : Int)) (BitVec.ofInt 8 (0 : Int))).set (0 + Int.toNat (0 : Int) * (fun x => x.size) Try.prog.types[5]) (BitVec.ofInt 8 (9 : Int)) = nine32 := by kernel_rfl
  rw [e, cutL_all] at r0
  refine use_run r0 rfl ?_
  clear r0
  simp only [AllP]
  and_intros <;> first | exact True.intro | with_reducible rfl | omega
def spNine : List AV → Option (AV × List Prop)
  | [] => some (sc (.d8 nine32), [])
  | _ => none
theorem ctNine : CtSOk Try.prog 18 (.fn spNine) := FnS_of_fnS gsLe0 fol fun ds r cs h hc => by
  unfold spNine at h
  split at h
  case h_2 => simp at h
  simp only [Option.some.injEq, Prod.mk.injEq] at h
  obtain ⟨rfl, rfl⟩ := h
  have r0 := runNine
  rw [show cutL (bl 9 32) 0 32 32 = nine32 by kernel_rfl] at r0
  exact use_run r0 rfl ⟨rfl, by omega, by omega, nine_dg, by omega, trivial⟩
theorem eF {z : Int} (h : z = 0) : (!(z == (0 : Int))) = false := by rw [h]; rfl
theorem eT {z : Int} (h : z ≠ 0) : (!(z == (0 : Int))) = true := by rw [Bool.not_eq_true', beq_eq_false_iff_ne]; exact h
theorem ctShared : CtSOk Try.prog 15 (.fn (spMultG sharedV)) := FnS_of_fnS gsLe fol fun ds r cs h hc => by
  unfold spMultG at h
  split at h
  case h_2 => simp at h
  rename_i k u
  simp only [Option.some.injEq, Prod.mk.injEq] at h
  obtain ⟨rfl, rfl⟩ := h
  by_cases h : (multV k u).2 = 0
  · have hl := multV_len h
    by_cases hz : (multV k u).1 = zero32
    · have r0 := runShZ multV k u
      refine use_run r0 (by rw [sharedV, if_neg (fun q => q h), if_pos hz]; rfl) ⟨rfl, rfl, eF h, ⟨by omega, by omega⟩, hl, ?_, by omega, trivial⟩
      rw [Bool.and_true, beq_iff_eq]
      exact hz
    · have r0 := runShO multV k u
      rw [cutL_all] at r0
      refine use_run r0 (by rw [sharedV, if_neg (fun q => q h), if_neg hz]) ⟨rfl, rfl, eF h, ⟨by omega, by omega⟩, hl, ?_, by omega, trivial⟩
      rw [Bool.and_true, beq_eq_false_iff_ne]
      exact hz
  · exact use_run (runShE multV k u) (by rw [sharedV, if_pos h]; rfl) ⟨rfl, rfl, eT h, by omega, trivial⟩
theorem ctRShared : CtSOk Try.prog 16 (.fn (spMultG sharedV)) := FnS_of_fnS gsLe fol fun ds r cs h hc => by
  unfold spMultG at h
  split at h
  case h_2 => simp at h
  rename_i k u
  simp only [Option.some.injEq, Prod.mk.injEq] at h
  obtain ⟨rfl, rfl⟩ := h
  by_cases h : (multV k u).2 = 0
  · have hl := multV_len h
    by_cases hz : (multV k u).1 = zero32
    · refine use_run (runRShZ multV k u) (by rw [sharedV, if_neg (fun q => q h), if_pos hz]; rfl) ⟨rfl, rfl, eF h, rfl, by omega, ?_, by omega, trivial⟩
      have : (dg (bv (multV k u).1)).length = 0 := (dg_len0 _).2 ((zero_iff hl).2 hz)
      rw [this]; rfl
    · have r0 := runRShO multV k u
      rw [cutL_all] at r0
      refine use_run r0 (by rw [sharedV, if_neg (fun q => q h), if_neg hz]) ⟨rfl, rfl, eF h, rfl, by omega, ?_, by omega, trivial⟩
      have : (dg (bv (multV k u).1)).length ≠ 0 := fun q => hz ((zero_iff hl).1 ((dg_len0 _).1 q))
      rw [beq_eq_false_iff_ne]; omega
  · exact use_run (runRShE multV k u) (by rw [sharedV, if_pos h]; rfl) ⟨rfl, rfl, eT h, by omega, trivial⟩
def spOwnL : List AV → Option (AV × List Prop)
  | [.val false [.d8 b]] => some (sc (.d8 b), [b.length ≤ 140737488351232])
  | _ => none
theorem ctOwnL : CtSOk Try.prog 9 (.fn spOwnL) := FnS_of_fnS gs0 fol fun ds r cs h hc => by
  unfold spOwnL at h
  split at h
  case h_2 => simp at h
  rename_i b
  simp only [Option.some.injEq, Prod.mk.injEq] at h
  obtain ⟨rfl, rfl⟩ := h
  have hb := hc.1
  have r0 := runOwn b
  rw [Nat.zero_add, cutL_all] at r0
  refine use_run r0 rfl ?_
  clear r0
  simp only [AllP]
  and_intros <;> first | exact True.intro | with_reducible rfl | omega
/-! ### The ladder of noughts -/
theorem lad0 : ∀ j, ladS 0 (clampL zero32) (j + 2) = ⟨0, 0, 0, 0⟩
  | 0 => by kernel_rfl
  | j + 1 => by
    have ih := lad0 j
    show lr _ 0 (ladS 0 (clampL zero32) (j + 2)) = _
    rw [ih]
    cases decide (bitB (clampL zero32) (254 - (j + 2)) = 1) <;> kernel_rfl
theorem mult_zero : multV zero32 zero32 = (zero32, 0) := by
  have e : ladX zero32 = 0 := by kernel_rfl
  have h : ladB zero32 zero32 = zero32 := by
    unfold ladB
    have ha : (ladS 0 (clampL zero32) 255).a = 0 := congrArg L4.a (lad0 253)
    have hz : ∀ x, fMul 0 x = 0 := fun x => by rw [fMul, Nat.zero_mul, Nat.zero_mod]
    have h0 : bl 0 32 = zero32 := by kernel_rfl
    rw [e]
    refine Eq.trans ?_ h0
    rw [ha, hz]
  rw [multV, if_pos ⟨rfl, rfl⟩, h]
theorem shared_zero : sharedV zero32 zero32 = ([], 8) := by
  rw [sharedV, mult_zero, if_neg (fun q => q rfl), if_pos rfl]
def tblLk0 : List (FuncId × CtS) := [(9, .fn spOwnL), (10, .fn spClamp), (11, .fn spClamp), (18, .fn spNine)]
theorem okLk0 : TblOk Try.prog tblLk0 := ⟨⟨ctOwnL, by kernel_rfl⟩, ⟨ctClamp, by kernel_rfl⟩, ⟨ctRClamp, by kernel_rfl⟩, ⟨ctNine, by kernel_rfl⟩, trivial⟩
theorem gsLk0 : GSound Try.prog (upG (lookG tblLk0)) := GSound_of_tbl okLk0
def spPublG (f : BL → BL → BL × Int) : List AV → Option (AV × List Prop)
  | [.val false [.d8 k]] => some (.tup [(false, [.d8 (f k nine32).1]), (false, [.i64 (f k nine32).2])], [])
  | _ => none
def tblLk (f g : BL → BL → BL × Int) : List (FuncId × CtS) :=
  (13, .fn (spMultG f)) :: (14, .fn (spMultG f)) :: (17, .fn (spPublG f)) :: (15, .fn (spMultG g)) :: (16, .fn (spMultG g)) :: tblLk0
theorem okLk : TblOk Try.prog (tblLk multV sharedV) := ⟨⟨ct_mult_prog, by kernel_rfl⟩, ⟨ct_mult_doc, by kernel_rfl⟩, ⟨ctPubl, by kernel_rfl⟩, ⟨ctShared, by kernel_rfl⟩, ⟨ctRShared, by kernel_rfl⟩, okLk0⟩
theorem gsLk : GSound Try.prog (upG (lookG (tblLk multV sharedV))) := GSound_of_tbl okLk
theorem runAwakeL (f g : BL → BL → BL × Int) : fnS Try.prog (lookG (tblLk f g)) (orcA [(3, [(15, true)])]) [] 10 12 [] =
    some (sc (IV.bool true), [(0 : Int) ≤ (32 : Int), (0 : Int) ≤ (32 : Int), 32 = 32 ∧ 32 ≤ 281474976710656 ∧ 32 ≤ 9223372036854775807, 32 = 32, (0 : Int) ≤ (32 : Int), (0 : Int) ≤ (32 : Int), 32 = 32 ∧ 32 ≤ 281474976710656 ∧ 32 ≤ 9223372036854775807, (0 : Int) ≤ (32 : Int), (0 : Int) ≤ (32 : Int), 32 = 32 ∧ 32 ≤ 281474976710656 ∧ 32 ≤ 9223372036854775807, 32 = 32, 32 = 32, (0 : Int) ≤ (31 : Int), 31 < 32, 31 < 32, ((g (List.replicate (Int.toNat (32 : Int)) (BitVec.ofInt 8 (0 : Int))) (List.replicate (Int.toNat (32 : Int)) (BitVec.ofInt 8 (0 : Int)))).snd == (8 : Int)) = true]) := by kernel_rfl
end Go.Proofs.Ytpeplakhcgaajaa
/- The order of the base point is prime. Own work; no program in sight. -/
namespace Go.Sp
open Go.Ev Go.RowKit
theorem prL_2 : PrD 2 := small_ok (f := 0) (by kernel_rfl)
theorem prL_3 : PrD 3 := small_ok (f := 0) (by kernel_rfl)
theorem prL_11 : PrD 11 := small_ok (f := 2) (by kernel_rfl)
theorem prL_23 : PrD 23 := small_ok (f := 3) (by kernel_rfl)
theorem prL_409477 : PrD 409477 := small_ok (f := 638) (by kernel_rfl)
theorem prL_14741173 : PrD 14741173 := (luc_ok (n := 14741173) (g := 2) (fs := [2, 2, 3, 3, 409477]) (by kernel_rfl) (PrD_cons prL_2 (PrD_cons prL_2 (PrD_cons prL_3 (PrD_cons prL_3 (PrD_cons prL_409477 PrD_nil)))))).prime (by decide)
theorem prL_58964693 : PrD 58964693 := (luc_ok (n := 58964693) (g := 2) (fs := [2, 2, 14741173]) (by kernel_rfl) (PrD_cons prL_2 (PrD_cons prL_2 (PrD_cons prL_14741173 PrD_nil)))).prime (by decide)
theorem prL_30703 : PrD 30703 := small_ok (f := 174) (by kernel_rfl)
theorem prL_82163 : PrD 82163 := small_ok (f := 285) (by kernel_rfl)
theorem prL_132667 : PrD 132667 := small_ok (f := 363) (by kernel_rfl)
theorem prL_137849 : PrD 137849 := small_ok (f := 370) (by kernel_rfl)
theorem prL_3044861653679985063343 : PrD 3044861653679985063343 := (luc_ok (n := 3044861653679985063343) (g := 5) (fs := [2, 3, 11, 30703, 82163, 137849, 132667]) (by kernel_rfl) (PrD_cons prL_2 (PrD_cons prL_3 (PrD_cons prL_11 (PrD_cons prL_30703 (PrD_cons prL_82163 (PrD_cons prL_137849 (PrD_cons prL_132667 PrD_nil)))))))).prime (by decide)
theorem prL_198211423230930754013084525763697 : PrD 198211423230930754013084525763697 := (luc_ok (n := 198211423230930754013084525763697) (g := 5) (fs := [2, 2, 2, 2, 3, 23, 58964693, 3044861653679985063343]) (by kernel_rfl) (PrD_cons prL_2 (PrD_cons prL_2 (PrD_cons prL_2 (PrD_cons prL_2 (PrD_cons prL_3 (PrD_cons prL_23 (PrD_cons prL_58964693 (PrD_cons prL_3044861653679985063343 PrD_nil))))))))).prime (by decide)
theorem prL_7 : PrD 7 := small_ok (f := 1) (by kernel_rfl)
theorem prL_269 : PrD 269 := small_ok (f := 15) (by kernel_rfl)
theorem prL_5 : PrD 5 := small_ok (f := 1) (by kernel_rfl)
theorem prL_73 : PrD 73 := small_ok (f := 7) (by kernel_rfl)
theorem prL_307 : PrD 307 := small_ok (f := 16) (by kernel_rfl)
theorem prL_5879 : PrD 5879 := small_ok (f := 75) (by kernel_rfl)
theorem prL_292386187 : PrD 292386187 := (luc_ok (n := 292386187) (g := 2) (fs := [2, 3, 3, 3, 3, 307, 5879]) (by kernel_rfl) (PrD_cons prL_2 (PrD_cons prL_3 (PrD_cons prL_3 (PrD_cons prL_3 (PrD_cons prL_3 (PrD_cons prL_307 (PrD_cons prL_5879 PrD_nil)))))))).prime (by decide)
theorem prL_213441916511 : PrD 213441916511 := (luc_ok (n := 213441916511) (g := 13) (fs := [2, 5, 73, 292386187]) (by kernel_rfl) (PrD_cons prL_2 (PrD_cons prL_5 (PrD_cons prL_73 (PrD_cons prL_292386187 PrD_nil))))).prime (by decide)
theorem prL_1361 : PrD 1361 := small_ok (f := 35) (by kernel_rfl)
theorem prL_2851 : PrD 2851 := small_ok (f := 52) (by kernel_rfl)
theorem prL_41 : PrD 41 := small_ok (f := 5) (by kernel_rfl)
theorem prL_43 : PrD 43 := small_ok (f := 5) (by kernel_rfl)
theorem prL_531581 : PrD 531581 := small_ok (f := 728) (by kernel_rfl)
theorem prL_1224481 : PrD 1224481 := small_ok (f := 1105) (by kernel_rfl)
theorem prL_1257559732178653 : PrD 1257559732178653 := (luc_ok (n := 1257559732178653) (g := 2) (fs := [2, 2, 3, 7, 23, 1224481, 531581]) (by kernel_rfl) (PrD_cons prL_2 (PrD_cons prL_2 (PrD_cons prL_3 (PrD_cons prL_7 (PrD_cons prL_23 (PrD_cons prL_1224481 (PrD_cons prL_531581 PrD_nil)))))))).prime (by decide)
theorem prL_4434155615661930479 : PrD 4434155615661930479 := (luc_ok (n := 4434155615661930479) (g := 17) (fs := [2, 41, 43, 1257559732178653]) (by kernel_rfl) (PrD_cons prL_2 (PrD_cons prL_41 (PrD_cons prL_43 (PrD_cons prL_1257559732178653 PrD_nil))))).prime (by decide)
theorem prL_172054593956031949258510691 : PrD 172054593956031949258510691 := (luc_ok (n := 172054593956031949258510691) (g := 2) (fs := [2, 5, 1361, 2851, 4434155615661930479]) (by kernel_rfl) (PrD_cons prL_2 (PrD_cons prL_5 (PrD_cons prL_1361 (PrD_cons prL_2851 (PrD_cons prL_4434155615661930479 PrD_nil)))))).prime (by decide)
theorem prL_19757330305831588566944191468367130476339 : PrD 19757330305831588566944191468367130476339 := (luc_ok (n := 19757330305831588566944191468367130476339) (g := 2) (fs := [2, 269, 213441916511, 172054593956031949258510691]) (by kernel_rfl) (PrD_cons prL_2 (PrD_cons prL_269 (PrD_cons prL_213441916511 (PrD_cons prL_172054593956031949258510691 PrD_nil))))).prime (by decide)
theorem prL_276602624281642239937218680557139826668747 : PrD 276602624281642239937218680557139826668747 := (luc_ok (n := 276602624281642239937218680557139826668747) (g := 2) (fs := [2, 7, 19757330305831588566944191468367130476339]) (by kernel_rfl) (PrD_cons prL_2 (PrD_cons prL_7 (PrD_cons prL_19757330305831588566944191468367130476339 PrD_nil)))).prime (by decide)
theorem prL_7237005577332262213973186563042994240857116359379907606001950938285454250989 : PrD 7237005577332262213973186563042994240857116359379907606001950938285454250989 := (luc_ok (n := 7237005577332262213973186563042994240857116359379907606001950938285454250989) (g := 2) (fs := [2, 2, 3, 11, 198211423230930754013084525763697, 276602624281642239937218680557139826668747]) (by kernel_rfl) (PrD_cons prL_2 (PrD_cons prL_2 (PrD_cons prL_3 (PrD_cons prL_11 (PrD_cons prL_198211423230930754013084525763697 (PrD_cons prL_276602624281642239937218680557139826668747 PrD_nil))))))).prime (by decide)
def Lp : Nat := 7237005577332262213973186563042994240857116359379907606001950938285454250989
theorem pr_Lp : PrD Lp := prL_7237005577332262213973186563042994240857116359379907606001950938285454250989
end Go.Sp
/- The points of edwards25519 by the field's numbers: sums with three and four numbers, multiples, the base point and its order. Own work; no program in sight. -/
namespace Go.Proofs.Ytpeplakhcgaajaa
open Go.Ev Go.Sp Go.RowKit
set_option maxRecDepth 100000
/-! ### Three numbers a point -/
structure T3 where
  x : Nat
  y : Nat
  z : Nat
def T3.Lt (p : T3) : Prop := p.x < Pp ∧ p.y < Pp ∧ p.z < Pp
/-- The sum, by the curve's number. -/
def plus3 (d : Nat) (p q : T3) : T3 :=
  ⟨fMul (fMul p.z q.z) (fMul (fSub (fMul (fMul p.z q.z) (fMul p.z q.z)) (fMul d (fMul (fMul p.x q.x) (fMul p.y q.y)))) (fAdd (fMul p.x q.y) (fMul p.y q.x))),
   fMul (fMul p.z q.z) (fMul (fAdd (fMul (fMul p.z q.z) (fMul p.z q.z)) (fMul d (fMul (fMul p.x q.x) (fMul p.y q.y)))) (fAdd (fMul p.y q.y) (fMul p.x q.x))),
   fMul (fSub (fMul (fMul p.z q.z) (fMul p.z q.z)) (fMul d (fMul (fMul p.x q.x) (fMul p.y q.y)))) (fAdd (fMul (fMul p.z q.z) (fMul p.z q.z)) (fMul d (fMul (fMul p.x q.x) (fMul p.y q.y))))⟩
theorem plus3_lt (d : Nat) (p q : T3) : (plus3 d p q).Lt := ⟨fMul_lt _ _, fMul_lt _ _, fMul_lt _ _⟩
def R3 (P : Pt Ed) (p : T3) : Prop := Rep3 P (tF p.x) (tF p.y) (tF p.z)
theorem R3.add {P Q : Pt Ed} {p q : T3} (h1 : R3 P p) (h2 : R3 Q q) : R3 (P.add Q) (plus3 dN p q) := by
  have h := Rep3.add h1 h2
  unfold R3 plus3
  simp only [tF_mul, tF_add, tF_sub _ (fMul_lt _ _)]
  exact h
def nought3 : T3 := ⟨0, 1, 1⟩
theorem R3.nought : R3 (Pt.nought : Pt Ed) nought3 := by
  have h : Rep3 (Pt.nought : Pt Ed) 0 1 1 := Rep3.nought
  rw [← tF_zero, ← tF_one] at h
  exact h
/-- A point of numbers. -/
def OnN (x y : Nat) : Prop := fSub (fMul y y) (fMul x x) = fAdd 1 (fMul dN (fMul (fMul x x) (fMul y y)))
theorem OnN.on {x y : Nat} (h : OnN x y) : Ed.On (tF x) (tF y) := by
  unfold Cv.On
  have h1 := congrArg tF h
  simp only [tF_mul, tF_add, tF_sub _ (fMul_lt _ _), tF_one] at h1
  exact h1
theorem on_OnN {x y : Nat} (h : Ed.On (tF x) (tF y)) : OnN x y := by
  refine tF_inj (fAdd_lt _ _) (fAdd_lt _ _) ?_
  simp only [tF_mul, tF_add, tF_sub _ (fMul_lt _ _), tF_one]
  exact h
def ptN (x y : Nat) (h : OnN x y) : Pt Ed := ⟨tF x, tF y, h.on⟩
theorem R3.of {x y : Nat} (h : OnN x y) : R3 (ptN x y h) ⟨x, y, 1⟩ := by
  have h1 := Rep3.of (ptN x y h)
  rw [← tF_one] at h1
  exact h1
theorem R3.point {P : Pt Ed} {p : T3} (h : R3 P p) (hz : p.z < Pp) : fMul p.x (fInv p.z) = P.x.val ∧ fMul p.y (fInv p.z) = P.y.val := by
  obtain ⟨h1, h2⟩ := Rep3.point h
  rw [← tF_inv hz, ← tF_mul] at h1 h2
  exact ⟨by rw [← h1, val_tF (fMul_lt _ _)], by rw [← h2, val_tF (fMul_lt _ _)]⟩
/-! ### Four numbers a point -/
structure W4 where
  x : Nat
  y : Nat
  z : Nat
  t : Nat
def W4.Lt (p : W4) : Prop := p.x < Pp ∧ p.y < Pp ∧ p.z < Pp ∧ p.t < Pp
def wA (p q : W4) : Nat := fMul (fSub p.y p.x) (fSub q.y q.x)
def wB (p q : W4) : Nat := fMul (fAdd p.y p.x) (fAdd q.y q.x)
def wC (p q : W4) : Nat := fMul p.t (fMul (fAdd dN dN) q.t)
def wD (p q : W4) : Nat := fMul p.z (fAdd q.z q.z)
def wadd (p q : W4) : W4 :=
  ⟨fMul (fSub (wB p q) (wA p q)) (fSub (wD p q) (wC p q)), fMul (fAdd (wD p q) (wC p q)) (fAdd (wB p q) (wA p q)), fMul (fSub (wD p q) (wC p q)) (fAdd (wD p q) (wC p q)), fMul (fSub (wB p q) (wA p q)) (fAdd (wB p q) (wA p q))⟩
theorem wadd_lt (p q : W4) : (wadd p q).Lt := ⟨fMul_lt _ _, fMul_lt _ _, fMul_lt _ _, fMul_lt _ _⟩
def R4 (P : Pt Ed) (p : W4) : Prop := p.Lt ∧ Rep4 P (tF p.x) (tF p.y) (tF p.z) (tF p.t)
theorem R4.add {P Q : Pt Ed} {p q : W4} (h1 : R4 P p) (h2 : R4 Q q) : R4 (P.add Q) (wadd p q) := by
  have h := Rep4.add h1.2 h2.2
  obtain ⟨⟨l1, l2, l3, l4⟩, _⟩ := h1
  obtain ⟨⟨m1, m2, m3, m4⟩, _⟩ := h2
  refine ⟨wadd_lt _ _, ?_⟩
  unfold wadd wA wB wC wD
  simp only [tF_mul, tF_add, tF_sub _ (fMul_lt _ _), tF_sub _ l1, tF_sub _ m1]
  exact h
def nought4 : W4 := ⟨0, 1, 1, 0⟩
theorem R4.nought : R4 (Pt.nought : Pt Ed) nought4 := by
  have h : Rep4 (Pt.nought : Pt Ed) 0 1 1 0 := Rep4.nought
  rw [← tF_zero, ← tF_one] at h
  exact ⟨by unfold W4.Lt nought4; decide, h⟩
def w4 (x y : Nat) : W4 := ⟨x, y, 1, fMul x y⟩
theorem R4.of {x y : Nat} (hx : x < Pp) (hy : y < Pp) (h : OnN x y) : R4 (ptN x y h) (w4 x y) := by
  have h1 := Rep4.of (ptN x y h)
  have e : (ptN x y h).x * (ptN x y h).y = tF (fMul x y) := (tF_mul x y).symm
  rw [← tF_one, e] at h1
  exact ⟨⟨hx, hy, one_lt, fMul_lt _ _⟩, h1⟩
theorem R4.point {P : Pt Ed} {p : W4} (h : R4 P p) : fMul p.x (fInv p.z) = P.x.val ∧ fMul p.y (fInv p.z) = P.y.val := by
  obtain ⟨h1, h2⟩ := Rep4.point h.2
  rw [← tF_inv h.1.2.2.1, ← tF_mul] at h1 h2
  exact ⟨by rw [← h1, val_tF (fMul_lt _ _)], by rw [← h2, val_tF (fMul_lt _ _)]⟩
/-- So many times, bit by bit from the highest of 256. -/
def wtimes (p : W4) (n : Nat) : Nat → W4
  | 0 => nought4
  | j + 1 => if n / 2 ^ (255 - j) % 2 = 0 then wadd (wtimes p n j) (wtimes p n j) else wadd (wadd (wtimes p n j) (wtimes p n j)) p
theorem half_step (n j : Nat) (hj : j < 256) : n / 2 ^ (256 - (j + 1)) = n / 2 ^ (256 - j) + n / 2 ^ (256 - j) + n / 2 ^ (255 - j) % 2 := by
  have e1 : 256 - (j + 1) = 255 - j := by omega
  have e2 : 256 - j = (255 - j) + 1 := by omega
  rw [e1, e2, Nat.pow_succ, ← Nat.div_div_eq_div_mul]
  generalize n / 2 ^ (255 - j) = m
  omega
theorem R4.times {P : Pt Ed} {p : W4} (h : R4 P p) (n : Nat) (hn : n < 2 ^ 256) : ∀ j, j ≤ 256 → R4 (Pt.times (n / 2 ^ (256 - j)) P) (wtimes p n j)
  | 0, _ => by
    rw [Nat.sub_zero, Nat.div_eq_of_lt hn]
    exact R4.nought
  | j + 1, hj => by
    have ih := R4.times h n hn j (by omega)
    rw [half_step n j (by omega), Pt.times_add, Pt.times_add]
    unfold wtimes
    split
    · rename_i h0
      rw [h0, Pt.times_zero, Pt.add_nought]
      exact ih.add ih
    · rename_i h0
      have h1 : n / 2 ^ (255 - j) % 2 = 1 := by omega
      rw [h1, Pt.times_one]
      exact (ih.add ih).add h
theorem R4.mult {P : Pt Ed} {p : W4} (h : R4 P p) (n : Nat) (hn : n < 2 ^ 256) : R4 (Pt.times n P) (wtimes p n 256) := by
  have := h.times n hn 256 (by omega)
  rwa [Nat.sub_self, Nat.pow_zero, Nat.div_one] at this
/-! ### So many times, from the lowest bit -/
def tP (d : Nat) (p : T3) : Nat → T3
  | 0 => p
  | i + 1 => plus3 d (tP d p i) (tP d p i)
def tO (d : Nat) (p : T3) (n : Nat) : Nat → T3
  | 0 => nought3
  | i + 1 => if n / 2 ^ i % 2 = 1 then plus3 d (tO d p n i) (tP d p i) else tO d p n i
theorem R3.tP {P : Pt Ed} {p : T3} (h : R3 P p) : ∀ i, R3 (Pt.times (2 ^ i) P) (tP dN p i)
  | 0 => by rw [Nat.pow_zero, Pt.times_one]; exact h
  | i + 1 => by
    have ih := R3.tP h i
    rw [Nat.pow_succ, Nat.mul_two, Pt.times_add]
    exact ih.add ih
theorem low_step (n i : Nat) : n % 2 ^ (i + 1) = n % 2 ^ i + 2 ^ i * (n / 2 ^ i % 2) := Nat.mod_pow_succ
theorem R3.tO {P : Pt Ed} {p : T3} (h : R3 P p) (n : Nat) : ∀ i, R3 (Pt.times (n % 2 ^ i) P) (tO dN p n i)
  | 0 => by rw [Nat.pow_zero, Nat.mod_one]; exact R3.nought
  | i + 1 => by
    have ih := R3.tO h n i
    rw [low_step, Pt.times_add]
    unfold Go.Proofs.Ytpeplakhcgaajaa.tO
    split
    · rename_i h0
      rw [h0, Nat.mul_one]
      exact ih.add (R3.tP h i)
    · rename_i h0
      have h1 : n / 2 ^ i % 2 = 0 := by omega
      rw [h1, Nat.mul_zero, Pt.times_zero, Pt.add_nought]
      exact ih
theorem tP_lt {d : Nat} {p : T3} (h : p.Lt) : ∀ i, (tP d p i).Lt
  | 0 => h
  | _ + 1 => plus3_lt _ _ _
theorem nought3_lt : nought3.Lt := by unfold T3.Lt nought3; decide
theorem tO_lt {d : Nat} {p : T3} (n : Nat) : ∀ i, (tO d p n i).Lt
  | 0 => nought3_lt
  | i + 1 => by
    unfold Go.Proofs.Ytpeplakhcgaajaa.tO
    split
    · exact plus3_lt _ _ _
    · exact tO_lt n i
/-! ### The base point -/
def bxN : Nat := 15112221349535400772501151409588531511454012693041857206046113283949847762202
def byN : Nat := 46316835694926478169428394003475163141307993866256225615783033603165251855960
theorem bON : OnN bxN byN := by unfold OnN; kernel_rfl
def Bp : Pt Ed := ptN bxN byN bON
def goB : List Bool → T3 → Bool
  | [], p => p.x == 0 && p.y == p.z
  | b :: r, ⟨x, y, z⟩ => if x + y + z = 0 then false else goB r (if b then plus3 dN (plus3 dN ⟨x, y, z⟩ ⟨x, y, z⟩) ⟨bxN, byN, 1⟩ else plus3 dN ⟨x, y, z⟩ ⟨x, y, z⟩)
def numB : List Bool → Nat → Nat
  | [], k => k
  | b :: r, k => numB r (2 * k + if b then 1 else 0)
theorem goB_ok : ∀ (l : List Bool) (k : Nat) (p : T3), p.Lt → R3 (Pt.times k Bp) p → goB l p = true → Pt.times (numB l k) Bp = Pt.nought
  | [], k, p, hl, hp, h => by
    simp only [goB, Bool.and_eq_true, beq_iff_eq] at h
    show Pt.times k Bp = Pt.nought
    obtain ⟨z, hx, hy⟩ := hp
    rw [h.1, tF_zero] at hx
    rw [h.2] at hy
    refine Pt.ext ?_ ?_
    · rcases Ed.dom _ _ hx.symm with e | e
      · exact e
      · exact absurd e z
    · refine Ed.cancel z (b := 1) ?_
      rw [← hy]
      exact (Fin.one_mul _).symm
  | b :: r, k, ⟨x, y, z⟩, hl, hp, h => by
    unfold goB at h
    split at h
    · simp at h
    have hd := hp.add hp
    rw [← Pt.times_add] at hd
    show Pt.times (numB r (2 * k + if b then 1 else 0)) Bp = _
    cases b with
    | false =>
      exact goB_ok r _ _ (plus3_lt _ _ _) (by rw [Nat.two_mul]; exact hd) h
    | true =>
      refine goB_ok r _ _ (plus3_lt _ _ _) ?_ h
      rw [Nat.two_mul]
      exact hd.add (R3.of bON)
def bitsB (n : Nat) : Nat → List Bool
  | 0 => []
  | k + 1 => (n / 2 ^ k % 2 == 1) :: bitsB n k
theorem order_B : Pt.times Lp Bp = Pt.nought := by
  have h := goB_ok (bitsB Lp 253) 0 nought3 nought3_lt R3.nought (by kernel_rfl)
  rwa [show numB (bitsB Lp 253) 0 = Lp by kernel_rfl] at h
theorem times_gcd (a b : Nat) : Pt.times a Bp = Pt.nought → Pt.times b Bp = Pt.nought → Pt.times (Nat.gcd a b) Bp = Pt.nought := by
  induction a, b using Nat.gcd.induction with
  | H0 n => intro _ h; rwa [Nat.gcd_zero_left]
  | H1 m n hm ih =>
    intro h1 h2
    rw [Nat.gcd_rec]
    refine ih ?_ h1
    have e := Nat.mod_add_div n m
    rw [← e, Pt.times_add, Nat.mul_comm, Pt.times_mul, h1, Pt.times_nought, Pt.add_nought] at h2
    exact h2
theorem B_ne : Bp ≠ Pt.nought := fun h => by
  have h1 : (tF bxN : Fin Pp) = 0 := congrArg Pt.x h
  rw [← tF_zero] at h1
  exact absurd (tF_inj (by decide) Pp_pos h1) (by decide)
theorem times_B {k : Nat} : Pt.times k Bp = Pt.nought ↔ Lp ∣ k := by
  constructor
  · intro h
    have h1 := times_gcd k Lp h order_B
    rcases pr_Lp.2 _ (Nat.gcd_dvd_right k Lp) with e | e
    · rw [e, Pt.times_one] at h1
      exact absurd h1 B_ne
    · rw [← e]; exact Nat.gcd_dvd_left k Lp
  · rintro ⟨c, rfl⟩
    rw [Nat.mul_comm, Pt.times_mul, order_B, Pt.times_nought]
theorem times_mod (k : Nat) : Pt.times (k % Lp) Bp = Pt.times k Bp := by
  have h : Pt.times (k % Lp + k / Lp * Lp) Bp = Pt.times (k % Lp) Bp := by
    rw [Pt.times_add, Pt.times_mul, order_B, Pt.times_nought, Pt.add_nought]
  have e : k % Lp + k / Lp * Lp = k := by rw [Nat.mul_comm]; exact Nat.mod_add_div k Lp
  rw [← h, e]
end Go.Proofs.Ytpeplakhcgaajaa
/- What the ladder makes is a point's number: of n times the point. Own work; no program in sight. -/
namespace Go.Proofs.Ytpeplakhcgaajaa
open Go.Ev Go.Sp Go.RowKit
set_option maxRecDepth 100000
def RL (P : Pt Ed) (a b : Nat) : Prop := RepL P (tF a) (tF b)
theorem RL.step {u : Nat} {P Q : Pt Ed} {l : L4} (hl : l.Lt) (hp : RL P l.a l.b) (hq : RL Q l.c l.d) (hu : tF u * (1 - (Q.add P.neg).y) = 1 + (Q.add P.neg).y) (hb : 1 + (Q.add P.neg).y ≠ 0) :
    RL (P.add P) (lstep u l).a (lstep u l).b ∧ RL (P.add Q) (lstep u l).c (lstep u l).d := by
  obtain ⟨_, l2, _, l4⟩ := hl
  constructor
  · have h := RepL.dbl Ed_mont hp
    unfold RL lstep
    simp only [tF_mul, tF_add, tF_sub _ l2, tF_sub _ (fMul_lt _ _)]
    exact h
  · have h := RepL.sum Ed_mont hp hq hu hb
    unfold RL lstep
    simp only [tF_mul, tF_add, tF_sub _ l2, tF_sub _ l4, tF_sub _ (fMul_lt _ _)]
    exact h
theorem dif_up (n : Nat) (B : Pt Ed) : (Pt.times (n + 1) B).add (Pt.times n B).neg = B := by
  show ((Pt.times n B).add B).add (Pt.times n B).neg = B
  rw [Pt.add_comm (Pt.times n B) B, Pt.add_assoc, Pt.add_neg, Pt.add_nought]
theorem dif_down (n : Nat) (B : Pt Ed) : (Pt.times n B).add (Pt.times (n + 1) B).neg = B.neg := by
  show (Pt.times n B).add ((Pt.times n B).add B).neg = B.neg
  rw [Pt.neg_sum, ← Pt.add_assoc, Pt.add_neg, Pt.nought_add]
theorem neg_y (B : Pt Ed) : B.neg.y = B.y := rfl
theorem top_bits (m j : Nat) (hj : j < 255) : m / 2 ^ (255 - (j + 1)) = 2 * (m / 2 ^ (255 - j)) + m / 2 ^ (254 - j) % 2 := by
  have e1 : 255 - (j + 1) = 254 - j := by omega
  have e2 : 255 - j = (254 - j) + 1 := by omega
  rw [e1, e2, Nat.pow_succ, ← Nat.div_div_eq_div_mul]
  generalize m / 2 ^ (254 - j) = x
  omega
/-- The ladder's state: n times and n + 1 times. -/
theorem lad_rep {u : Nat} (hlt : u < Pp) {B : Pt Ed} (hu : tF u * (1 - B.y) = 1 + B.y) (h1 : 1 - B.y ≠ 0) (h2 : 1 + B.y ≠ 0) (s : BL) (hs : bv s < 2 ^ 255) : ∀ j, j ≤ 255 →
    RL (Pt.times (bv s / 2 ^ (255 - j)) B) (ladS u s j).a (ladS u s j).b ∧ RL (Pt.times (bv s / 2 ^ (255 - j) + 1) B) (ladS u s j).c (ladS u s j).d
  | 0, _ => by
    rw [Nat.sub_zero, Nat.div_eq_of_lt hs, Pt.times_zero, Pt.times_one]
    constructor
    · show RepL _ (tF 1) (tF 0)
      rw [tF_one, tF_zero]
      exact RepL.nought
    · show RepL _ (tF u) (tF 1)
      rw [tF_one]
      exact RepL.base hu h1
  | j + 1, hj => by
    obtain ⟨i1, i2⟩ := lad_rep hlt hu h1 h2 s hs j (by omega)
    have hl := ladS_lt hlt s j
    rw [top_bits (bv s) j (by omega)]
    have hb : bitB s (254 - j) = bv s / 2 ^ (254 - j) % 2 := rfl
    generalize bv s / 2 ^ (255 - j) = n at *
    unfold ladS
    rw [hb]
    have b2 : bv s / 2 ^ (254 - j) % 2 < 2 := Nat.mod_lt _ (by omega)
    rcases (by omega : bv s / 2 ^ (254 - j) % 2 = 0 ∨ bv s / 2 ^ (254 - j) % 2 = 1) with e | e
    · rw [e]
      have e2n : 2 * n = n + n := by omega
      have e2m : n + n + 1 = n + (n + 1) := by omega
      obtain ⟨q1, q2⟩ := RL.step (u := u) hl i1 i2 (by rw [dif_up]; exact hu) (by rw [dif_up]; exact h2)
      rw [Nat.add_zero, e2n, e2m, Pt.times_add n n, Pt.times_add n (n + 1)]
      exact ⟨q1, q2⟩
    · rw [e]
      have e2n : 2 * n + 1 = (n + 1) + n := by omega
      have e2m : (n + 1) + n + 1 = (n + 1) + (n + 1) := by omega
      have hl' : (L4.mk (ladS u s j).c (ladS u s j).d (ladS u s j).a (ladS u s j).b).Lt := ⟨hl.2.2.1, hl.2.2.2, hl.1, hl.2.1⟩
      obtain ⟨q1, q2⟩ := RL.step (u := u) hl' i2 i1 (by rw [dif_down, neg_y]; exact hu) (by rw [dif_down, neg_y]; exact h2)
      rw [e2n, e2m, Pt.times_add (n + 1) n, Pt.times_add (n + 1) (n + 1)]
      exact ⟨q2, q1⟩
/-- A point's number. -/
def uP (Q : Pt Ed) : Nat := ((1 + Q.y) * Ed.inv (1 - Q.y)).val
theorem uP_lt (Q : Pt Ed) : uP Q < Pp := Fin.isLt _
theorem uP_mul (Q : Pt Ed) (h : 1 - Q.y ≠ 0) : tF (uP Q) * (1 - Q.y) = 1 + Q.y := by
  have hi := Ed.inv_mul _ h
  unfold uP
  rw [tF_val, m_assoc, fin_mul_comm' (Ed.inv _), hi, fin_mul_one']
theorem lad_out {u : Nat} (hlt : u < Pp) {B : Pt Ed} (hu : tF u * (1 - B.y) = 1 + B.y) (h1 : 1 - B.y ≠ 0) (h2 : 1 + B.y ≠ 0) (s : BL) (hs : bv s < 2 ^ 255) :
    fMul (ladS u s 255).a (fInv (ladS u s 255).b) = uP (Pt.times (bv s) B) := by
  have h := (lad_rep hlt hu h1 h2 s hs 255 (by omega)).1
  have hl := ladS_lt hlt s 255
  rw [Nat.sub_self, Nat.pow_zero, Nat.div_one] at h
  have ho := RepL.out h Ed_inv0
  rw [← tF_inv hl.2.1, ← tF_mul] at ho
  unfold uP
  rw [← ho, val_tF (fMul_lt _ _)]
/-! ### Secrets -/
theorem b248 : ∀ x : BitVec 8, (x &&& 248#8).toNat % 8 = 0 := by decide
theorem b64 : ∀ x : BitVec 8, 64 ≤ (x &&& 63#8 ||| 64#8).toNat ∧ (x &&& 63#8 ||| 64#8).toNat < 128 := by decide
theorem clamp_bv (k : BL) (hk : k.length = 32) : bv (clampL k) % 8 = 0 ∧ 28948022309329048855892746252171976963317496166410141009864396001978282409984 ≤ bv (clampL k) ∧ bv (clampL k) < 57896044618658097711785492504343953926634992332820282019728792003956564819968 := by
  obtain ⟨a, m, b, e⟩ : ∃ (a : BitVec 8) (m : BL) (b : BitVec 8), clampL k = (a &&& 248#8) :: (m ++ [b &&& 63#8 ||| 64#8]) ∧ m.length = 30 := by
    match k, hk with
    | [k0, k1, k2, k3, k4, k5, k6, k7, k8, k9, k10, k11, k12, k13, k14, k15, k16, k17, k18, k19, k20, k21, k22, k23, k24, k25, k26, k27, k28, k29, k30, k31], _ =>
      exact ⟨k0, [k1, k2, k3, k4, k5, k6, k7, k8, k9, k10, k11, k12, k13, k14, k15, k16, k17, k18, k19, k20, k21, k22, k23, k24, k25, k26, k27, k28, k29, k30], k31, rfl, rfl⟩
  obtain ⟨e, hm⟩ := e
  have ha := b248 a
  have hb := b64 b
  have h30 := bv_lt m
  have hp : (256 : Nat) ^ 30 = 1766847064778384329583297500742918515827483896875618958121606201292619776 := by decide
  rw [hm, hp] at h30
  have hav := (a &&& 248#8).isLt
  rw [e]
  simp only [bv]
  rw [bv_append, hm, hp]
  simp only [bv]
  generalize (a &&& 248#8).toNat = x at *
  generalize (b &&& 63#8 ||| 64#8).toNat = y at *
  generalize bv m = z at *
  omega
theorem Lp_no (s c : Nat) (h8 : s % 8 = 0) (h0 : 0 < s) (hc : 2 * s = Lp * c) (h16 : c < 16) : False := by
  have m : 2 * s % 16 = 0 := by omega
  have m2 : Lp * c % 16 = 13 * c % 16 := by
    rw [Nat.mul_mod, show Lp % 16 = 13 by decide, Nat.mul_mod_mod]
  rw [hc, m2] at m
  have c0 : c = 0 := by omega
  rw [c0, Nat.mul_zero] at hc
  omega
theorem Lp_clamp {s : Nat} (h8 : s % 8 = 0) (h1 : 28948022309329048855892746252171976963317496166410141009864396001978282409984 ≤ s) (h2 : s < 57896044618658097711785492504343953926634992332820282019728792003956564819968) : ¬ Lp ∣ 2 * s := by
  rintro ⟨c, hc⟩
  refine Lp_no s c h8 (Nat.lt_of_lt_of_le (by decide) h1) hc (Nat.lt_of_not_le fun h => ?_)
  have h3 : Lp * 16 ≤ 2 * s := by rw [hc]; exact Nat.mul_le_mul_left Lp h
  have h4 : 2 * s < 2 * 57896044618658097711785492504343953926634992332820282019728792003956564819968 := by
    generalize 57896044618658097711785492504343953926634992332820282019728792003956564819968 = B at h2 ⊢
    omega
  exact absurd (Nat.lt_of_le_of_lt h3 h4) (by decide)
theorem y_one {A : Pt Ed} (h : A ≠ Pt.nought) : 1 - A.y ≠ 0 := fun h0 => h (by
  have hy : A.y = 1 := g_y1 _ h0
  refine Pt.ext ?_ hy
  have hon : A.y*A.y - A.x*A.x = 1 + Ed.d*(A.x*A.x*(A.y*A.y)) := A.on
  rw [hy] at hon
  have hz := g_x0 _ _ hon
  have hd : (1 : Fin Pp) + Ed.d ≠ 0 := fun h => Ed.one (l_d1 _ _ Ed_mont.2 h)
  rcases Ed.dom _ _ hz with e | e
  · rcases Ed.dom _ _ e with e | e <;> exact e
  · exact absurd e hd)
theorem y_none {A : Pt Ed} (h : A.add A ≠ Pt.nought) : 1 + A.y ≠ 0 := fun h0 => h (by
  have hy : A.y = -1 := g_y2 _ h0
  have hon : A.y*A.y - A.x*A.x = 1 + Ed.d*(A.x*A.x*(A.y*A.y)) := A.on
  rw [hy] at hon
  have hz := g_x0' _ _ hon
  have hd : (1 : Fin Pp) + Ed.d ≠ 0 := fun h => Ed.one (l_d1 _ _ Ed_mont.2 h)
  have hx : A.x = 0 := by
    rcases Ed.dom _ _ hz with e | e
    · rcases Ed.dom _ _ e with e | e <;> exact e
    · exact absurd e hd
  have e : A = A.neg := Pt.ext (by show A.x = -A.x; rw [hx]; exact g_neg0) rfl
  have h3 := Pt.add_neg A
  rw [← e] at h3
  exact h3)
/-- The public number. -/
theorem lad_nine (k : BL) (hk : k.length = 32) : multV k nine32 = (bl (uP (Pt.times (bv (clampL k)) Bp)) 32, 0) := by
  have hx : ladX nine32 = 9 := by kernel_rfl
  have h1 : fMul 9 (fSub 1 byN) = fAdd 1 byN := by kernel_rfl
  have hu : tF 9 * (1 - Bp.y) = 1 + Bp.y := by
    show tF 9 * (1 - tF byN) = 1 + tF byN
    rw [← tF_one, ← tF_sub _ (by decide), ← tF_mul, h1, tF_add]
  have n1 : 1 - Bp.y ≠ 0 := y_one B_ne
  have n2 : 1 + Bp.y ≠ 0 := y_none (fun h => by
    rw [← Pt.times_two] at h
    have := times_B.1 h
    exact absurd (Nat.le_of_dvd (by omega) this) (by decide))
  rw [multV, if_pos ⟨hk, rfl⟩]
  unfold ladB
  rw [hx, lad_out (by decide) hu n1 n2 _ (clamp_bv k hk).2.2]
theorem lad_pub (k j : BL) (hk : k.length = 32) (hj : j.length = 32) : multV k (bl (uP (Pt.times (bv (clampL j)) Bp)) 32) = (bl (uP (Pt.times (bv (clampL k) * bv (clampL j)) Bp)) 32, 0) := by
  obtain ⟨c8, c1, c2⟩ := clamp_bv j hj
  have hL := Lp_clamp c8 c1 c2
  have hn : (Pt.times (bv (clampL j)) Bp).add (Pt.times (bv (clampL j)) Bp) ≠ Pt.nought := fun h => by
    rw [← Pt.times_add, ← Nat.two_mul] at h
    exact hL (times_B.1 h)
  have hn0 : Pt.times (bv (clampL j)) Bp ≠ Pt.nought := fun h => hn (by rw [h, Pt.add_nought])
  have hu := uP_mul _ (y_one hn0)
  have hlt := uP_lt (Pt.times (bv (clampL j)) Bp)
  have hx : ladX (bl (uP (Pt.times (bv (clampL j)) Bp)) 32) = uP (Pt.times (bv (clampL j)) Bp) := by
    unfold ladX
    rw [bv_bl, show (256 : Nat) ^ 32 = p256 by decide, Nat.mod_eq_of_lt (lt256 hlt), Nat.mod_eq_of_lt (Nat.lt_trans hlt (by decide)), Nat.mod_eq_of_lt hlt]
  rw [multV, if_pos ⟨hk, bl_length _ _⟩]
  unfold ladB
  rw [hx, lad_out hlt hu (y_one hn0) (y_none hn) _ (clamp_bv k hk).2.2, ← Pt.times_mul]
/-- Both share one number. -/
theorem agrees (j k : BL) (hj : j.length = 32) (hk : k.length = 32) : multV j (multV k nine32).1 = multV k (multV j nine32).1 := by
  rw [lad_nine k hk, lad_nine j hj]
  dsimp only
  rw [lad_pub j k hj hk, lad_pub k j hk hj, Nat.mul_comm]
end Go.Proofs.Ytpeplakhcgaajaa
