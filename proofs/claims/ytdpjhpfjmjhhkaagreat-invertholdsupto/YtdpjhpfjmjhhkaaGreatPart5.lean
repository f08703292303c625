/- A calculus of plain values for the model's code, what the code of each function asks (computed by the kernel), contracts of the functions, and plain laws (part 5). No conditions. -/
import Derived.Test.YtdpjhpfjmjhhkaaGreatPart4
import Derived.Test.YtdpjhpfjmjhhkaaGreatPart3
import Derived.ProofKit
import Derived.OpenShut
import Derived.JoinedCond
import Derived.WalkKit
import Derived.Test.YtdpjhpfjmjhhkaaGreatRows
set_option maxRecDepth 100000
open Go Go.Proofs
namespace Go.AM
def z5j (l : List Tm) : Tm := l.getLastD default
def z51 (b : Tm) : Tm := applyF (hd b.l) b.l.tail.dropLast
def z1g (b : Tm) : Bool := b.k == 6 && (z5j b.l).k == 3 && (z5j b.l).n == 0 && occF (z51 b) 0 == 0
def z5w (b : Tm) : Tm := if z1g b = true then shT 0 (-1) (z51 b) 0 else noT
mutual
def z04 : Tm → Tm
 | .mk k s n l => if (k == 5) = true then (if z1g (hd (z09 l)) = true then z5w (hd (z09 l)) else .mk 5 [] 0 [hd (z09 l)]) else if (k == 6) = true then applyF (hd (z09 l)) (z09 l).tail else .mk k s n l
def z09 : List Tm → List Tm
 | [] => []
 | t :: l => z04 t :: z09 l
end
theorem z5e {k n : Int} {s : List UInt8} {l : List Tm} (h : okB (.mk k s n l) = true) (hk : k = 6) : ∃ x a z, l = x :: a ++ [z] ∧ x.k ≠ 6 ∧ okB x = true ∧ okL a = true ∧ okB z = true := by
 obtain ⟨x, y, r, rfl, h6, hl⟩ := okB6 h hk
 refine ⟨x, (y :: r).dropLast, (y :: r).getLast (by simp), by rw [List.cons_append, List.dropLast_concat_getLast], h6, z3c hl List.mem_cons_self, zj fun u hu => z3c hl (List.mem_cons_of_mem _ (List.dropLast_subset _ hu)), z3c hl (List.mem_cons_of_mem _ (List.getLast_mem _))⟩
theorem zob (x : Tm) (a : List Tm) (z : Tm) : z5j (x :: a ++ [z]) = z := by
 rw [z5j, List.getLastD_eq_getLast?, List.getLast?_append]; rfl
theorem z4s (k n : Int) (s : List UInt8) (x : Tm) (a : List Tm) (z : Tm) : z51 (.mk k s n (x :: a ++ [z])) = applyF x a := by
 rw [z51]; show applyF x ((a ++ [z]).dropLast) = _
 rw [List.dropLast_concat]
theorem zrm {b : Tm} (h : z1g b = true) : b.k = 6 := by
 simp only [z1g, Bool.and_eq_true, beq_iff_eq] at h; exact h.1.1.1
theorem drop0 {b : Tm} (h : z1g b = true) : occF (z51 b) 0 = 0 := by
 simp only [z1g, Bool.and_eq_true, beq_iff_eq] at h; exact h.2
theorem zge {b : Tm} (h : okB b = true) (hk : b.k = 6) : okB (z51 b) = true ∧ (lvB b = true → lvB (z51 b) = true) ∧ (z51 b).sz ≤ b.sz ∧ ∀ M, bd M b → bd M (z51 b) := by
 obtain ⟨k, s, n, l⟩ := b
 have hk' : k = 6 := hk
 obtain ⟨x, a, z, rfl, h6, hx, ha, hz⟩ := z5e h hk'
 rw [z4s]
 refine ⟨z4i hx ha, fun hl => ?_, ?_, fun M hb => ?_⟩
 · rw [z2t (.inr hk')] at hl
   exact z46 (z7t hl List.mem_cons_self) (zbi fun u hu => z7t hl (List.mem_cons_of_mem _ (List.mem_append_left _ hu)))
 · have := z2m x a
   simp only [Tm.sz, List.cons_append, Tm.szs, Tm.szs_append]; omega
 · exact z2n (z1v hb.2 List.mem_cons_self) (z63 fun u hu => z1v hb.2 (List.mem_cons_of_mem _ (List.mem_append_left _ hu)))
theorem z8i : ∀ {l : List Tm} {i : Int}, occL l i = 0 → ∀ u ∈ l, occF u i = 0
 | x :: l, i, h, u, hu => by
  simp only [occL] at h
  rcases List.mem_cons.1 hu with rfl | hu
  · omega
  · exact z8i (l := l) (by omega) u hu
theorem occ_kids {k n : Int} {s : List UInt8} {l : List Tm} {d : Int} (h : occF (.mk k s n l) d = 0) : ∀ u ∈ l, occF u (d + if (k == 5) = true then 1 else 0) = 0 := by
 rw [occF] at h
 split at h
 · cases h
 · exact z8i h
theorem zu2 {t : Tm} (h : lvB t = true) (d : Int) (h0 : occF t d = 0) (hd : 0 ≤ d) : lvB (shT 0 (-1) t d) = true := by
 refine zb8 _ (fun u d => occF u d = 0 ∧ 0 ≤ d) (fun k s n l d hQ u hu => ⟨occ_kids hQ.1 u hu, by have := hQ.2; split <;> omega⟩) (fun u d hu hQ h5 h6 => ?_) t d h ⟨h0, hd⟩
 unfold z0g
 split
 · rename_i hc
   obtain ⟨k, s, n, l⟩ := u
   have hk : k = 3 := by have hc := hc.1; have hc : (k == 3) = true := hc; simpa using hc
   subst hk
   rw [z7v (by decide) (by decide), ze6] at hu
   have h1 : n ≠ d := fun e => by
    have := hQ.1
    rw [occF, if_pos ⟨rfl, by simp [e]⟩] at this; cases this
   have h2 : d + 0 ≤ n := hc.2
   have := hQ.2
   show lvB (.mk 3 s (n + -1) l) = true
   rw [z7v (by decide) (by decide), ze6]
   exact ⟨by omega, by omega, hu.2.2.1, hu.2.2.2⟩
 · exact hu
theorem zrw {M : Int} (hM : 1 ≤ M) {t : Tm} (h : bd M t) (d : Int) (hd : 0 ≤ d) : bd M (shT 0 (-1) t d) := by
 refine zb1 _ M M (d + t.sz) (fun u d' hu h0 _ => ?_) t d h hd (Int.le_refl _)
 unfold z0g
 split
 · rename_i hc
   obtain ⟨k, s, n, l⟩ := u
   exact ⟨fun e => by have := hu.1 e; have h2 : d' + 0 ≤ n := hc.2; simp only [Tm.n]; omega, hu.2⟩
 · exact hu
theorem dropF_ok {b : Tm} (h : okB b = true) (hd : z1g b = true) : okB (z5w b) = true ∧ (lvB b = true → lvB (z5w b) = true) ∧ (z5w b).sz ≤ b.sz ∧ ∀ M, 1 ≤ M → bd M b → bd M (z5w b) := by
 obtain ⟨h1, h2, h3, h4⟩ := zge h (zrm hd)
 rw [z5w, if_pos hd]
 exact ⟨shT_ok 0 h1, fun hl => zu2 (h2 hl) 0 (drop0 hd) (Int.le_refl _), Nat.le_trans (zoi ..) h3, fun M hM hb => zrw hM (h4 M hb) 0 (Int.le_refl _)⟩
mutual
theorem z1o : ∀ t : Tm, okB t = true → okB (z04 t) = true ∧ (lvB t = true → lvB (z04 t) = true) ∧ (z04 t).sz ≤ t.sz ∧ ∀ M, 1 ≤ M → bd M t → bd M (z04 t)
 | .mk k s n l, h => by
  have hl := zk1 l (z78 h)
  rw [z04]
  split
  · rename_i h5
    have h5 : k = 5 := by simpa using h5
    obtain ⟨x, rfl, hx⟩ := okB5 h h5
    obtain ⟨g1, g2, g3, g4⟩ := hl
    simp only [z09, okL, lvL, Bool.and_true, Tm.szs] at g1 g2 g3 g4
    show okB (if z1g (z04 x) = true then z5w (z04 x) else .mk 5 [] 0 [z04 x]) = true ∧ _
    rw [show hd (z09 [x]) = z04 x from rfl]
    split
    · rename_i hd
      obtain ⟨f1, f2, f3, f4⟩ := dropF_ok g1 hd
      refine ⟨f1, fun hl => f2 (g2 ?_), by simp only [Tm.sz, Tm.szs]; omega, fun M hM hb => f4 M hM (g4 M hM hb.2).1⟩
      rw [z2t (.inl h5)] at hl
      simpa [lvL] using hl
    · refine ⟨by simp [okB, okL, g1], fun hl => ?_, by simp only [Tm.sz, Tm.szs]; omega, fun M hM hb => ⟨fun e => by omega, g4 M hM hb.2⟩⟩
      rw [z2t (.inl h5)] at hl
      rw [z2t (.inl rfl)]
      simp only [lvL, Bool.and_true] at hl ⊢
      exact g2 hl
  · split
    · rename_i h6
      have h6 : k = 6 := by simpa using h6
      obtain ⟨x, y, r, rfl, _, _⟩ := okB6 h h6
      obtain ⟨g1, g2, g3, g4⟩ := hl
      rw [show hd (z09 (x :: y :: r)) = z04 x from rfl, show (z09 (x :: y :: r)).tail = z09 (y :: r) from rfl]
      rw [show z09 (x :: y :: r) = z04 x :: z09 (y :: r) from rfl] at g1 g2 g3 g4
      simp only [okL, Bool.and_eq_true] at g1
      refine ⟨z4i g1.1 g1.2, fun hl => ?_, ?_, fun M hM hb => ?_⟩
      · rw [z2t (.inr h6)] at hl
        have := g2 hl
        simp only [lvL, Bool.and_eq_true] at this
        exact z46 this.1 this.2
      · have := z2m (z04 x) (z09 (y :: r))
        simp only [Tm.szs] at g3
        simp only [Tm.sz, Tm.szs]; omega
      · have := g4 M hM hb.2
        exact z2n this.1 this.2
    · exact ⟨h, fun hl => hl, Nat.le_refl _, fun M _ hb => hb⟩
theorem zk1 : ∀ l : List Tm, okL l = true → okL (z09 l) = true ∧ (lvL l = true → lvL (z09 l) = true) ∧ Tm.szs (z09 l) ≤ Tm.szs l ∧ ∀ M, 1 ≤ M → bds M l → bds M (z09 l)
 | [], _ => ⟨rfl, fun _ => rfl, Nat.le_refl _, fun _ _ _ => trivial⟩
 | t :: l, h => by
  simp only [okL, Bool.and_eq_true] at h
  obtain ⟨a1, a2, a3, a4⟩ := z1o t h.1
  obtain ⟨b1, b2, b3, b4⟩ := zk1 l h.2
  refine ⟨by simp only [z09, okL, a1, b1, Bool.and_self], fun hl => ?_, by simp only [z09, Tm.szs]; omega, fun M hM hb => ⟨a4 M hM hb.1, b4 M hM hb.2⟩⟩
  simp only [lvL, Bool.and_eq_true] at hl
  simp only [z09, lvL, a2 hl.1, b2 hl.2, Bool.and_self]
end
theorem c_efree (t : Tm) (i : Int) (hs : t.sz ≤ B) (h0 : 0 - 2305843009213693952 ≤ i) (h1 : i + t.sz ≤ 2305843009213693952) : AC Tryz.prog 130 [aT t, ci i] [] (cb (validB t && decide (occF t i > 0))) [] := by
 have h := zqn t hs i h0 h1
 obtain ⟨k, s, n, l⟩ := t
 refine AC.vc hP sh lv130 (Nat.le_refl _) (by simp) (by simp) (Eq.mpr (v130 k s n (FTs l) i _ _) ?_)
 refine ⟨_, h, z05 ?_⟩
 cases validB (.mk k s n l) with
 | false => rfl
 | true => simp
theorem lastI (x : Tm) (a : List Tm) (z : Tm) (hl : a.length ≤ SZ) : IntKind.wrap .i64 ((((FTs (x :: a ++ [z])).length : Nat) : Int) - 1) = ((x :: a).length : Int) := by
 rw [z01]; simp only [SZ] at hl
 rw [w64 (by simp; omega) (by simp; omega)]; simp
theorem c_edrop (b : Tm) (ho : okB b = true) (hl : lvB b = true) (hs : b.sz ≤ SZ) (hb : bd M61 b) : AC Tryz.prog 104 [aT b] [] (.tup [(true, cT (z5w b)), (false, [.a (.fz (.bool (z1g b)))])]) [] := by
 have no : z1g b = false → z5w b = noT := fun h => if_neg (by rw [h]; simp)
 obtain ⟨k, s, n, l⟩ := b
 have hlen := Tm.szs_length l
 simp only [Tm.sz, SZ] at hs
 refine AC.vc hP sh lv104 (Nat.le_refl _) (by simp) (by simp) (Eq.mpr (v104 k s n (FTs l) _ _) ?_)
 refine ⟨rfl, z00 (fun h => ?_) (fun h => ?_)⟩
 · have hd : z1g (.mk k s n l) = false := by
    have h : (k != 6) = true := h
    rw [z1g, show (Tm.k (.mk k s n l) == 6) = false by show (k == 6) = false; simpa using h]; rfl
   rw [no hd, hd]
   exact ⟨leTB (l := []) z0r, rfl⟩
 · have h6 : k = 6 := by simpa using h
   subst h6
   obtain ⟨x, a, z, rfl, hx6, hx, ha, hz⟩ := z5e ho rfl
   obtain ⟨r1, r2, r3, r4⟩ := zge ho rfl
   have hd : z1g (.mk 6 s n (x :: a ++ [z])) = (z.k == 3 && z.n == 0 && occF (applyF x a) 0 == 0) := by
    rw [z1g, z4s, show Tm.l (.mk 6 s n (x :: a ++ [z])) = x :: a ++ [z] from rfl, zob]; rfl
   have hdF : z1g (.mk 6 s n (x :: a ++ [z])) = true → z5w (.mk 6 s n (x :: a ++ [z])) = shT 0 (-1) (applyF x a) 0 := fun h => by rw [z5w, if_pos h, z4s]
   rw [z4s] at r1 r2 r3 r4
   have hal : a.length ≤ 130000000 := by rw [List.length_append, List.length_cons] at hlen; omega
   rw [lastI x a z hal]
   have el : FV.isSl 4 (.sl false 4 (FTs (x :: a ++ [z]))) = true ∧ ((0 : Int) ≤ ((x :: a).length : Int) ∧ (((x :: a).length : Int) < (((FTs (x :: a ++ [z])).length : Nat) : Int) ∧ (rE (List.getD (FTs (x :: a ++ [z])) (Int.toNat ((x :: a).length : Int)) []) : List FV) = List.getD (FTs (x :: a ++ [z])) (Int.toNat ((x :: a).length : Int)) [])) := ⟨rfl, by omega, ltI' (x :: a) z [], z4x (x :: a) z []⟩
   have ez : List.getD (FTs (x :: a ++ [z])) (Int.toNat ((x :: a).length : Int)) [] = FT z := midI (x :: a) z []
   have ek : FV.asI (List.getD (List.getD (FTs (x :: a ++ [z])) (Int.toNat ((x :: a).length : Int)) []) 0 FV.nils) = z.k := by rw [ez]; cases z; rfl
   have en : FV.asI (List.getD (List.getD (FTs (x :: a ++ [z])) (Int.toNat ((x :: a).length : Int)) []) 2 FV.nils) = z.n := by rw [ez]; cases z; rfl
   rw [ek, en]
   refine ⟨el, z00 (fun h1 => ?_) (fun h1 => ⟨el, z00 (fun h2 => ?_) (fun h2 => ⟨el0 x (a ++ [z]), rfl, ⟨by omega, by simp only [List.length_cons]; omega, by rw [lenI, List.length_append]; omega⟩, ?_⟩)⟩)⟩
   · have hd' : z1g (.mk 6 s n (x :: a ++ [z])) = false := by
      have h1 : (z.k != 3) = true := h1
      rw [hd, show (z.k == 3) = false by simpa using h1]; rfl
     rw [no hd', hd']
     exact ⟨leTB (l := []) z0r, rfl⟩
   · have hd' : z1g (.mk 6 s n (x :: a ++ [z])) = false := by
      have h2 : (z.n != 0) = true := h2
      rw [hd, show (z.n == 0) = false by simpa using h2]; simp
     rw [no hd', hd']
     exact ⟨leTB (l := []) z0r, rfl⟩
   · have e1 : aE (List.getD (FTs (x :: a ++ [z])) 0 []) = aT x := zdp x
     have e2 : List.drop 1 (List.take (Int.toNat ((x :: a).length : Int)) (FTs (x :: a ++ [z]))) = FTs a := by
      rw [z8v, FTs_take, znb, List.take_left]; rfl
     rw [e1, e2]
     have hxs : x.l.length ≤ x.sz := by have := x.sz_eq; have := Tm.szs_length x.l; omega
     have hxz : x.sz ≤ 130000000 := by simp only [List.cons_append, Tm.szs] at hs; omega
     have hap := z3t x a (by omega)
     have hrz : (applyF x a).sz ≤ SZ := by simp only [Tm.sz] at r3; simp only [SZ]; omega
     have hfr := c_efree (applyF x a) 0 (by simp only [SZ, B] at *; omega) (by omega) (by simp only [SZ] at hrz; omega)
     have hva : validB (applyF x a) = true := by rw [z1p, r1, r2 hl]; rfl
     rw [hva, Bool.true_and] at hfr
     have hsh := zt8 (applyF x a) 0 (-1) (by simp only [SZ, B] at *; omega) (r4 _ hb) (Int.le_refl _) (by simp only [M61]; omega) (by omega) (by simp only [M61]; omega)
     have hz3 : (z.k == 3) = true := by
      have h1 : (z.k != 3) = false := h1
      simpa using h1
     have hz0 : (z.n == 0) = true := by
      have h2 : (z.n != 0) = false := h2
      simpa using h2
     refine ⟨_, hap, _, hfr, z00 (fun h3 => ?_) (fun h3 => ?_)⟩
     · have hd' : z1g (.mk 6 s n (x :: a ++ [z])) = false := by
        have h3 := of_decide_eq_true h3
        rw [hd, show (occF (applyF x a) 0 == 0) = false by simp; omega, Bool.and_false]
       rw [no hd', hd']
       exact ⟨leTB (l := []) z0r, rfl⟩
     · have hd' : z1g (.mk 6 s n (x :: a ++ [z])) = true := by
        have h3 := of_decide_eq_false h3
        rw [hd, hz3, hz0, show (occF (applyF x a) 0 == 0) = true by simp; omega]; rfl
       rw [hdF hd', hd']
       exact ⟨_, hsh, .refl _, rfl⟩
theorem zjt : ∀ (b a acc : List Tm), acc ≠ [] → acc.length = a.length → (∀ u ∈ b, AC Tryz.prog 71 [aT u] [] (aT (z04 u)) []) → (a ++ b).length ≤ SZ → (hd (acc ++ z09 b)).l.length ≤ B →
  RPt Tryz.prog 71 0 (aT (applyF (hd (acc ++ z09 b)) (acc ++ z09 b).tail)) [] 3 ⟨[(2, .c (.a (.ep 0 4 0 0))), (6, .c (.a (.osl 1 4 0 acc.length))), (30, aL (a ++ b)), (31, ci (((FTs (a ++ b)).length : Nat) : Int)), (32, ci a.length)], [(0, .arr 4 [zT]), (1, .arz 4 (FTs acc))], 2⟩
 | [], a, acc, hne, hlen, _, hl, hh => by
  simp only [z09, List.append_nil] at hh hl ⊢
  refine RPt.vc hP sh lv71 (Eq.mpr (v71_3b ..) ?_)
  match acc, hne, hlen, hh with
  | x :: r, _, hlen, hh =>
   simp only [SZ, B, List.length_cons] at hl hlen hh
   have hh : x.l.length ≤ 549755813888 := hh
   have hap := z3t x r (by omega)
   have e2 : List.take (Int.toNat ((x :: r).length : Int) - 1) (List.drop 1 (FTs (x :: r))) = FTs r := by
    rw [z8v, znb, List.take_of_length_le (by rw [z01]; simp)]; rfl
   have e1 : aE (List.getD (FTs (x :: r)) 0 []) = aT x := zdp x
   rw [e2, e1]
   refine z00 (fun h => absurd (of_decide_eq_true h) (by rw [z01]; omega)) (fun _ => ⟨⟨by omega, by simp⟩, ⟨by rw [z01]; simp, ?_, rfl⟩, ⟨by omega, by simp; omega, Int.le_refl _⟩, ⟨rfl, by rw [z8v, z01]; simp; omega⟩, _, hap.args ⟨.refl _, le_c leSl, trivial⟩, zh6 (.refl _)⟩)
   rw [show List.getD (FTs (x :: r)) 0 [] = FT x from rfl, zgp, List.drop_zero, List.take_of_length_le (by rw [z2k]; exact Nat.le_refl _)]
 | t :: b, a, acc, hne, hlen, ih, hl, hh => by
  have hl' := hl
  simp only [List.length_append, List.length_cons, SZ] at hl'
  have h1 := ih t List.mem_cons_self
  have h2 := zjt b (a ++ [t]) (acc ++ [z04 t]) (by simp) (by simp [hlen]) (fun u hu => ih u (List.mem_cons_of_mem _ hu)) (by rw [ap]; exact hl) (by rw [ap]; exact hh)
  have h3 := ltI' a t b
  rw [ap, ap, nx] at h2
  rw [z09]
  refine RPt.vc hP sh lv71 (Eq.mpr (v71_3b ..) ?_)
  rw [z65, w64 (x := (a.length : Int) + 1) (by omega) (by omega)]
  refine z00 (fun _ => ⟨⟨rfl, by omega, h3, z4x ..⟩, z04 t, h1, Nat.le_refl _, ⟨by rw [z01]; omega, z5k (by omega)⟩, ?_⟩) (fun h => absurd h3 (of_decide_eq_false h))
  have e5 : List.take acc.length (FTs acc) ++ [FT4 (z04 t)] = FTs (acc ++ [z04 t]) := by rw [List.take_of_length_le (by rw [z01]; omega), z7e, z27]; rfl
  rw [e5]
  rw [List.length_append] at h2
  exact h2
theorem zo5 : ∀ t : Tm, okB t = true → lvB t = true → t.sz ≤ SZ → bd M61 t → AC Tryz.prog 71 [aT t] [] (aT (z04 t)) [] := by
 refine Tm.ind fun t ih ho hl hs hb => ?_
 have hlen := Tm.szs_length t.l
 have hol := z78 ho
 obtain ⟨k, s, n, l⟩ := t
 simp only [Tm.sz, Tm.l, SZ] at hs hlen hol
 refine AC.vc hP sh lv71 (Nat.le_refl _) (by simp) (by simp) (Eq.mpr (v71 k s n (FTs l) _ _) ?_)
 refine z00 (fun h => ?_) (fun h => z00 (fun h' => ⟨rfl, ?_⟩) (fun h' => ?_))
 · have h5 : k = 5 := by simpa using h
   subst h5
   obtain ⟨x, rfl, hx⟩ := okB5 ho rfl
   rw [z2t (.inl rfl)] at hl
   have hlx : lvB x = true := by simpa [lvL] using hl
   simp only [Tm.szs] at hs
   obtain ⟨g1, g2, g3, g4⟩ := z1o x hx
   have h1 := ih x (List.mem_singleton.2 rfl) hx hlx (by simp only [SZ]; omega) hb.2.1
   have h2 := c_edrop (z04 x) g1 (g2 hlx) (by simp only [SZ]; omega) (g4 _ (by simp only [M61]; omega) hb.2.1)
   have h3 := zmx 1 (z04 x) (by omega)
   have e : z04 (.mk 5 s n [x]) = if z1g (z04 x) = true then z5w (z04 x) else .mk 5 [] 0 [z04 x] := by rw [z04, if_pos (show ((5 : Int) == 5) = true from rfl)]; rfl
   rw [show aE (List.getD (FTs [x]) 0 []) = aT x from zdp x, e]
   refine ⟨el0 x [], _, h1, (z5w (z04 x), z1g (z04 x)), h2, z00 (fun hd => ?_) (fun hd => ⟨_, h3, ?_⟩)⟩
   · have hd : z1g (z04 x) = true := hd
     rw [if_pos hd]; exact ⟨.refl _, rfl⟩
   · rw [if_neg (by rw [show z1g (z04 x) = false from hd]; simp)]; exact ⟨.refl _, rfl⟩
 · have h6 : k = 6 := by simpa using h'
   subst h6
   obtain ⟨x, y, r, rfl, hx6, _⟩ := okB6 ho rfl
   rw [z2t (.inr rfl)] at hl
   have ihl : ∀ u ∈ x :: y :: r, AC Tryz.prog 71 [aT u] [] (aT (z04 u)) [] := fun u hu => ih u hu (z3c hol hu) (z7t hl hu) (by have := Tm.szs_mem hu; simp only [SZ]; omega) (z1v hb.2 hu)
   have hx := (z1o x (z3c hol List.mem_cons_self)).2.2.1
   have hxl : (z04 x).l.length ≤ B := by
    have h1 := (z04 x).sz_eq
    have h2 := Tm.szs_length (z04 x).l
    simp only [Tm.szs] at hs
    simp only [B]; omega
   have loop := zjt (y :: r) [x] [z04 x] (by simp) rfl (fun u hu => ihl u (List.mem_cons_of_mem _ hu)) (show (x :: y :: r).length ≤ SZ by simp only [SZ]; omega) hxl
   have h1 := ihl x List.mem_cons_self
   have h3 := ltI' [] x (y :: r)
   refine RPt.vc hP sh lv71 (Eq.mpr (v71_3a ..) ?_)
   rw [show aE (List.getD (FTs (x :: y :: r)) (Int.toNat 0) []) = aT x from zdp x, w64 (by omega) (by omega)]
   refine z00 (fun _ => ⟨⟨rfl, by omega, h3, zgp x⟩, z04 x, h1, Nat.le_refl _, z5k (by omega), ?_⟩) (fun h => absurd h3 (of_decide_eq_false h))
   rw [z7e]
   exact loop
 · have h : (k == 5) = false := h
   have h' : (k == 6) = false := h'
   rw [z04, if_neg (by rw [h]; simp), if_neg (by rw [h']; simp)]
   exact ⟨.refl _, rfl⟩
theorem zmr (t : Tm) (hs : t.sz ≤ SZ) (hb : bd M61 t) : AC Tryz.prog 26 [aT t] [] (aT (if validB t = true then z04 t else t)) [] := by
 have h1 := z36 t (by simp only [SZ, B] at *; omega)
 have h2 := fun h => zo5 t (z02 t h) (z26 h) hs hb
 obtain ⟨k, s, n, l⟩ := t
 refine AC.vc hP sh lv26 (Nat.le_refl _) (by simp) (by simp) (Eq.mpr (v26 k s n (FTs l) _ _) ?_)
 refine ⟨_, h1, z00 (fun h => ?_) (fun h => ?_)⟩
 · rw [if_neg (by rw [not_t h]; simp)]; exact ⟨.refl _, rfl⟩
 · rw [if_pos (zp9 h)]; exact ⟨_, h2 (zp9 h), .refl _, rfl⟩
end Go.AM

namespace Go.AM
open Go.ChangeShapes Go.WideShapes Go.ChangeAt Go.RowKit
section
variable {H : Type} {enc : TypeId × Value → H} {P : Program} {w : World}
abbrev z6m : Nat → Prop := fun _ => False
def RdN (enc : TypeId × Value → H) (P : Program) (w : World) (b : DataW H → Nat) (fuel : Nat) (t : TypeId) {α : Type} (F : α → List FV) (sz : α → Nat) : Prop :=
 ∀ cs x, DataW.trod enc P w 0 (fun _ => true) true fuel t cs = some x → ∃ a, LRep (FRep w z6m) (F a) cs ∧ sz a ≤ b x.1
theorem zqt {b : DataW H → Nat} {t : TypeId} {k : IntKind} (ht : P.underlying t = some (.int k)) (hb : ∀ d, 1 ≤ b d) (fuel : Nat) : RdN enc P w b fuel t (fun n : Int => [.int k n]) (fun _ => 1) := by
 intro cs x h
 obtain ⟨n, rfl, rfl, _⟩ := DataW.trod_int ht h
 exact ⟨n, .cons (.int k n) .nil, hb _⟩
def Num (k : IntKind) := { n : Int // (Lit.int k n).wf = true }
theorem rd_num {b : DataW H → Nat} {t : TypeId} {k : IntKind} (ht : P.underlying t = some (.int k)) (hb : ∀ d, 1 ≤ b d) (fuel : Nat) : RdN enc P w b fuel t (fun n : Num k => [.int k n.1]) (fun _ => 1) := by
 intro cs x h
 obtain ⟨n, rfl, rfl, hw⟩ := DataW.trod_int ht h
 exact ⟨⟨n, hw⟩, .cons (.int k n) .nil, hb _⟩
theorem rd_bool {b : DataW H → Nat} {t : TypeId} (ht : P.underlying t = some .bool) (hb : ∀ d, 1 ≤ b d) (fuel : Nat) : RdN enc P w b fuel t (fun n : Bool => [.bool n]) (fun _ => 1) := by
 intro cs x h
 obtain ⟨n, rfl, rfl⟩ := DataW.trod_bool ht h
 exact ⟨n, .cons (.bool n) .nil, hb _⟩
theorem rd_str {b : DataW H → Nat} {t : TypeId} (ht : P.underlying t = some .string) (hb : ∀ l : List UInt8, l.length + 1 ≤ b (.lit (.string l))) (fuel : Nat) : RdN enc P w b fuel t (fun l : List UInt8 => [.str l]) (fun l => l.length + 1) := by
 intro cs x h
 obtain ⟨s, rfl, rfl, _⟩ := DataW.trod_string ht h
 refine ⟨s.data.toList, .cons ?_ .nil, hb _⟩
 have : (⟨s.data.toList.toArray⟩ : ByteArray) = s := by simp
 have h2 := FRep.str (w := w) (X := z6m) s.data.toList
 rw [this] at h2
 exact h2
def z68 {α : Type} (sz : α → Nat) : List α → Nat
 | [] => 0
 | a :: l => sz a + z68 sz l
theorem zh0 {α : Type} {sz : α → Nat} : ∀ {l : List α} {a : α}, a ∈ l → sz a ≤ z68 sz l
 | x :: l, a, h => by
  rcases List.mem_cons.1 h with rfl | h
  · simp [z68]
  · have := zh0 (sz := sz) h; simp only [z68]; omega
theorem sum_le {α : Type} {sz : α → Nat} {b : DataW H → Nat} {bs : List (DataW H) → Nat} (hbs : ∀ d l, bs (d :: l) = b d + bs l) : ∀ {xs : List α} {es : List (DataW H × List MemPlace)}, xs.length = es.length → (∀ (i : Nat) (x : α) (y : DataW H × List MemPlace), xs[i]? = some x → es[i]? = some y → sz x ≤ b y.1) → z68 sz xs ≤ bs (es.map (·.1))
 | [], _, _, _ => by simp [z68]
 | x :: xs, [], h, _ => by simp at h
 | x :: xs, e :: es, h, hr => by
  have h1 := hr 0 x e rfl rfl
  have h2 := sum_le (sz := sz) hbs (xs := xs) (es := es) (by simpa using h) fun i x y hx hy => hr (i + 1) x y (by simpa using hx) (by simpa using hy)
  simp only [z68, List.map_cons, hbs]
  omega
theorem zjw {a : Addr} {n : Nat} {cs : List Value} (h : w.cells? 0 a n = some cs) : cs.length = n ∧ ∀ j u, cs[j]? = some u → w.cell? (a.add j) = some u := by
 unfold World.cells? at h
 rw [if_pos (Nat.zero_le _)] at h
 refine ⟨by have := mapM_some_length h; simpa using this, fun j u hu => ?_⟩
 have hj : j < n := by
  have h1 := (List.getElem?_eq_some_iff.1 hu).1
  have := mapM_some_length h; simp at this; omega
 have := mapM_some_get h j j (by simp [hj])
 rw [this, hu]
theorem zr9 {a : Addr} {u : Value} (h : w.cell? a = some u) : a.spot = none := by
 unfold World.cell? at h
 split at h
 · split at h
   · cases h
   · rename_i hs; simpa using hs
 · cases h
theorem cell_blk {a : Addr} {u : Value} (h : w.cell? a = some u) : a.block < w.heap.size := by
 apply Decidable.byContradiction
 intro hn
 have : w.heap[a.block]? = none := by simp; omega
 simp [World.cell?, this] at h
theorem add_zero (a : Addr) : a.add 0 = a := rfl
theorem zmo (b o k : Nat) : (Addr.mk b o none).add k = ⟨b, o + k, none⟩ := by
 unfold Addr.add
 split
 · rename_i h; rw [h]; rfl
 · rfl
theorem zaz {b : DataW H → Nat} {bs : List (DataW H) → Nat} (hbs : ∀ d l, bs (d :: l) = b d + bs l) (hb0 : ∀ d, 1 ≤ b d) (hb : ∀ es sp, bs es + 1 ≤ b (.slice es sp)) {t e : TypeId} (ht : P.underlying t = some (.slice e)) {n : Nat} (hn : P.cellsOf e = n) (hn0 : 0 < n)
  {α : Type} {F : α → List FV} {sz : α → Nat} (hF : ∀ a, (F a).length = n) {fuel : Nat} (ih : ∀ k, k < fuel → RdN enc P w b k e F sz) : RdN enc P w b fuel t (fun l : List α => [.sl false n (l.map F)]) (fun l => z68 sz l + 1) := by
 intro cs x h
 rcases DataW.trod_slice ht h with ⟨rfl, rfl⟩ | ⟨a, len, cap, elems, rest, k, rfl, rfl, rfl, _, hlc, _, hlen, hel, hrest, _⟩
 · exact ⟨[], .cons (.slnil n) .nil, by simpa [z68] using hb0 _⟩
 · rw [hn] at hel
   have key : ∀ (i : Nat) (y : DataW H × List MemPlace), elems[i]? = some y → ∃ x : α, (∃ cs, w.cells? 0 (a.add (i * n)) n = some cs ∧ LRep (FRep w z6m) (F x) cs) ∧ sz x ≤ b y.1 := by
    intro i y hy
    have hi : i < len := by rw [← hlen]; exact (List.getElem?_eq_some_iff.1 hy).1
    have h1 := hel i hi
    rw [hy] at h1
    obtain ⟨cs, h2, h3⟩ := Option.bind_eq_some_iff.1 h1
    obtain ⟨x, h4, h5⟩ := ih k (Nat.lt_succ_self _) cs y h3
    exact ⟨x, ⟨cs, h2, h4⟩, h5⟩
   have key2 : ∃ xs : List α, xs.length = elems.length ∧ ∀ (i : Nat) (x : α), xs[i]? = some x → (∃ cs, w.cells? 0 (a.add (i * n)) n = some cs ∧ LRep (FRep w z6m) (F x) cs) ∧ ∀ y, elems[i]? = some y → sz x ≤ b y.1 := by
    have : ∀ (l : List (DataW H × List MemPlace)) (o : Nat), (∀ i, l[i]? = elems[o + i]?) → ∃ xs : List α, xs.length = l.length ∧ ∀ (i : Nat) (x : α), xs[i]? = some x → (∃ cs, w.cells? 0 (a.add ((o + i) * n)) n = some cs ∧ LRep (FRep w z6m) (F x) cs) ∧ ∀ y, l[i]? = some y → sz x ≤ b y.1 := by
     intro l
     induction l with
     | nil => exact fun o _ => ⟨[], rfl, fun i x h => by simp at h⟩
     | cons y l ih =>
      intro o ho
      obtain ⟨x, hx1, hx2⟩ := key o y (by have := ho 0; simpa using this.symm)
      obtain ⟨xs, h1, h2⟩ := ih (o + 1) (fun i => by have := ho (i + 1); rw [show o + 1 + i = o + (i + 1) by omega]; simpa using this)
      refine ⟨x :: xs, by simp [h1], fun i x' hx' => ?_⟩
      cases i with
      | zero => simp at hx'; subst hx'; exact ⟨by simpa using hx1, fun y' hy' => by simp at hy'; subst hy'; exact hx2⟩
      | succ i =>
       have := h2 i x' (by simpa using hx')
       rw [show o + 1 + i = o + (i + 1) by omega] at this
       exact ⟨this.1, fun y' hy' => this.2 y' (by simpa using hy')⟩
    obtain ⟨xs, h1, h2⟩ := this elems 0 (fun i => by simp)
    exact ⟨xs, h1, fun i x hx => by simpa using h2 i x hx⟩
   obtain ⟨xs, hxl, hx⟩ := key2
   have hsum := sum_le (sz := sz) (b := b) hbs hxl (fun i x y h1 h2 => (hx i x h1).2 y h2)
   have hb' := hb (elems.map (·.1)) (rest.map (·.1))
   refine ⟨xs, ?_, show z68 sz xs + 1 ≤ b (.slice (elems.map (·.1)) (rest.map (·.1))) by omega⟩
   by_cases hc0 : cap = 0
   · have h0 : len = 0 := by omega
     subst hc0; subst h0
     have : xs = [] := List.length_eq_zero_iff.1 (by omega)
     subst this
     exact .cons (.sl0 false n a) .nil
   · have hone : ∃ cs, w.cells? 0 a n = some cs := by
      by_cases h0 : len = 0
      · have hr := (hrest rfl).2 0 (by omega)
        have hr' : rest[0]? ≠ none := by
         rw [List.getElem?_eq_getElem (by rw [(hrest rfl).1]; omega)]; simp
        rw [hn] at hr
        rw [h0, show (0 + 0) * n = 0 by simp, add_zero] at hr
        cases hcl : w.cells? 0 a n with
        | none => rw [hcl] at hr; exact absurd hr.symm hr'
        | some cs => exact ⟨cs, rfl⟩
      · have : 0 < xs.length := by omega
        obtain ⟨⟨cs, h1, _⟩, _⟩ := hx 0 xs[0] (by simp [this])
        rw [show 0 * n = 0 by simp, add_zero] at h1
        exact ⟨cs, h1⟩
     obtain ⟨cs0, hq⟩ := hone
     obtain ⟨hl0, hq'⟩ := zjw hq
     have hq0 := hq' 0 (cs0[0]'(by omega)) (by simp)
     rw [add_zero] at hq0
     have hsp : a.spot = none := zr9 hq0
     have hbl : a.block < w.heap.size := cell_blk hq0
     obtain ⟨blk, off, sp⟩ := a
     have hsp : sp = none := hsp
     subst hsp
     refine .cons (.sl false n (xs.map F) blk off cap len (fun i j => (w.cell? ⟨blk, off + i * n + j, none⟩).getD (.bool false)) (by rw [List.length_map]; omega) (by rw [List.length_map]; omega) (fun h => h) hbl (fun i e he => ?_) (fun i j e f he hf => ?_) (fun i j e f he hf => ?_)) .nil
     · rw [List.getElem?_map] at he
       obtain ⟨x, _, rfl⟩ := Option.map_eq_some_iff.1 he
       exact hF x
     all_goals
      rw [List.getElem?_map] at he
      obtain ⟨x, hxi, rfl⟩ := Option.map_eq_some_iff.1 he
      obtain ⟨⟨cs, h1, h2⟩, _⟩ := hx i x hxi
      obtain ⟨h3, h4⟩ := zjw h1
      have hj : j < cs.length := by rw [← h2.1]; exact (List.getElem?_eq_some_iff.1 hf).1
      have h5 := h4 j cs[j] (by simp)
      rw [zmo, zmo] at h5
     · rw [h5]; rfl
     · rw [h5]
       exact h2.2 j f cs[j] hf (by simp)
theorem zui : ∀ l : List Tm, Tm.bks l = z68 Tm.bk l
 | [] => rfl
 | t :: l => by rw [Tm.bks, z68, zui l]
structure TmTy (P : Program) (T : TypeId) (f0 f1 f2 f3 : Field) : Prop where
 str : P.underlying T = some (.struct #[f0, f1, f2, f3])
 u0 : P.underlying f0.type = some (.int .i64)
 u1 : P.underlying f1.type = some .string
 u2 : P.underlying f2.type = some (.int .i64)
 u3 : P.underlying f3.type = some (.slice T)
 o0 : f0.offset = 0
 o1 : f1.offset = 1
 o2 : f2.offset = 2
 o3 : f3.offset = 3
 c0 : P.cellsOf f0.type = 1
 c1 : P.cellsOf f1.type = 1
 c2 : P.cellsOf f2.type = 1
 c3 : P.cellsOf f3.type = 1
 cT : P.cellsOf T = 4
structure Bulk (b : DataW H → Nat) (bs : List (DataW H) → Nat) : Prop where
 nil : bs [] = 0
 cons : ∀ d l, bs (d :: l) = b d + bs l
 one : ∀ d, 1 ≤ b d
 slice : ∀ es sp, bs es + 1 ≤ b (.slice es sp)
 str : ∀ l : List UInt8, l.length + 1 ≤ b (.lit (.string l))
 agg : ∀ l, bs l + 1 ≤ b (.agg l)
theorem LRep.one {α : Type} {R : α → Value → Prop} {c : α} {u : Value} (h : LRep R [c] [u]) : R c u := h.2 0 c u rfl rfl
theorem zqk {b : DataW H → Nat} {bs : List (DataW H) → Nat} (hb : Bulk b bs) {T : TypeId} {f0 f1 f2 f3 : Field} (hT : TmTy P T f0 f1 f2 f3) : ∀ fuel, RdN enc P w b fuel T FT Tm.bk := by
 intro fuel
 induction fuel using Nat.strongRecOn with
 | _ fuel ih =>
  intro cs x h
  obtain ⟨xs, n, rfl, rfl, hl, hxl, hf⟩ := DataW.trod_struct hT.str h
  rw [hT.cT] at hl
  match cs, hl with
  | [v0, v1, v2, v3], _ =>
  match xs, hxl with
  | [x0, x1, x2, x3], _ =>
  have g0 := hf 0 f0 rfl
  have g1 := hf 1 f1 rfl
  have g2 := hf 2 f2 rfl
  have g3 := hf 3 f3 rfl
  rw [hT.o0, hT.c0] at g0
  rw [hT.o1, hT.c1] at g1
  rw [hT.o2, hT.c2] at g2
  rw [hT.o3, hT.c3] at g3
  obtain ⟨k, r0, _⟩ := zqt (b := b) hT.u0 hb.one n _ _ g0
  obtain ⟨s, r1, z1⟩ := rd_str (b := b) hT.u1 hb.str n _ _ g1
  have z1 : s.length + 1 ≤ b x1.1 := z1
  obtain ⟨m, r2, _⟩ := zqt (b := b) hT.u2 hb.one n _ _ g2
  obtain ⟨l, r3, z3⟩ := zaz (F := FT) (sz := Tm.bk) hb.cons hb.one hb.slice hT.u3 hT.cT (by omega) z2k (fun k hk => ih k (by omega)) _ _ g3
  have z3 : z68 Tm.bk l + 1 ≤ b x3.1 := z3
  refine ⟨.mk k s m l, ?_, ?_⟩
  · rw [FT, z2c]
    exact .cons (LRep.one r0) (.cons (LRep.one r1) (.cons (LRep.one r2) (.cons (LRep.one r3) .nil)))
  · have := hb.one x0.1
    simp only [Tm.bk, zui]
    show _ ≤ b (.agg [x0.1, x1.1, x2.1, x3.1])
    have h9 := hb.agg [x0.1, x1.1, x2.1, x3.1]
    simp only [hb.cons, hb.nil] at h9
    omega
theorem none_own {Y : Nat → Prop} (hY : ∀ b, ¬ Y b) {Hs : List AObj} : (fun b => Y b ∨ Own (fun o => Hs.getD o .gone) (fun _ => none) b) = z6m := by
 funext b
 refine propext ⟨fun h => ?_, fun h => h.elim⟩
 rcases h with h | ⟨o, _, h⟩
 · exact (hY b h).elim
 · cases h
abbrev β0 : Nat → Option Nat := fun _ => none
theorem zqp {b : DataW H → Nat} {bs : List (DataW H) → Nat} (hb : Bulk b bs) {T : TypeId} {f0 f1 f2 f3 : Field} (hT : TmTy P T f0 f1 f2 f3) {r : Reach} {base : Nat} {v : Value} {d : DataW H} {ps : List MemPlace}
  (hv : Value.okWide P w r base T v) (hd : DataW.Trod enc P w 0 (fun _ => true) true T v d ps) : ∃ t : Tm, TRep w z6m β0 (aT t) v ∧ t.bk ≤ b d := by
 obtain ⟨cs, rfl, _⟩ := okWide_struct hT.str hv
 obtain ⟨fuel, hf⟩ := hd
 obtain ⟨t, h1, h2⟩ := zqk hb hT fuel _ _ hf
 refine ⟨t, ⟨cs.toList, by simp, ?_⟩, h2⟩
 rw [z82] at h1
 have h1 : LRep (FRep w z6m) [.int .i64 t.k, .str t.s, .int .i64 t.n, .sl false 4 (FTs t.l)] cs.toList := h1
 exact h1.map (g := fun x => WV.a (.fz x)) fun c u _ h => .a _ _ (.fz _ _ h)
theorem zpo {b : DataW H → Nat} {bs : List (DataW H) → Nat} (hb : Bulk b bs) {T S : TypeId} {f0 f1 f2 f3 : Field} (hT : TmTy P T f0 f1 f2 f3) (hS : P.underlying S = some (.slice T)) {r : Reach} {base : Nat} {v : Value} {d : DataW H} {ps : List MemPlace}
  (hv : Value.okWide P w r base S v) (hd : DataW.Trod enc P w 0 (fun _ => true) true S v d ps) : ∃ l : List Tm, TRep w z6m β0 (aL l) v ∧ Tm.bks l + 1 ≤ b d := by
 obtain ⟨a, len, cap, rfl⟩ := okWide_slice hS hv
 obtain ⟨fuel, hf⟩ := hd
 obtain ⟨l, h1, h2⟩ := zaz (F := FT) (sz := Tm.bk) hb.cons hb.one hb.slice hS hT.cT (by omega) z2k (fun k _ => zqk hb hT k) _ _ hf
 have h2 : z68 Tm.bk l + 1 ≤ b d := h2
 rw [← zui] at h2
 have h1 : LRep (FRep w z6m) [.sl false 4 (l.map FT)] [_] := h1
 rw [← z2c] at h1
 exact ⟨l, .a _ _ (.fz _ _ h1.one), h2⟩
theorem open_num {t : TypeId} {k : IntKind} (ht : P.underlying t = some (.int k)) {r : Reach} {base : Nat} {v : Value} {d : DataW H} {ps : List MemPlace}
  (hv : Value.okWide P w r base t v) (hd : DataW.Trod enc P w 0 (fun _ => true) true t v d ps) : ∃ n : Int, TRep w z6m β0 (.c (.a (.fz (.int k n)))) v ∧ (Lit.int k n).wf = true := by
 obtain ⟨n, rfl, _, _, hw⟩ := open_int ht hv hd
 exact ⟨n, .a _ _ (.fz _ _ (.int k n)), hw⟩
theorem ztx {w' : World} {foot : Nat → Prop} (g : Good w foot w') (hf : ∀ b, ¬ foot b) (may : MemPlace → Prop) : w.keptBut w' may := by
 refine ⟨g.os, g.output, fun i hi => ?_⟩
 rw [g.blk i hi (hf i)]
 exact (World.keptBut_refl w may).2.2 i hi
theorem zuw {w' : World} {foot : Nat → Prop} (g : Good w foot w') (hf : ∀ b, ¬ foot b) {p : MemPlace} (hp : p.block < w.heap.size) : w.sameAt w' p := by
 cases p with
 | cell b o => exact World.cell?_of_block (a := ⟨b, o, none⟩) (g.blk b hp (hf b))
 | map b => exact g.blk b hp (hf b)
theorem z88 (hl : laidOutB P = true) {w' : World} {sp : Nat → Bool} : ∀ {ts : List TypeId} {vs : List Value} {ds : List (DataW H)} {p : List MemPlace}, DataW.TrodAll enc P w 0 (fun _ => true) true ts vs ds p →
  (∀ t ∈ ts, P.readableRec t = true ∧ t < P.types.size) → (∀ x ∈ p, w.sameAt w' x) → (∀ x ∈ p, sp x.block = true) → DataW.TrodAll enc P w' 0 sp true ts vs ds p
 | [], _, _, _, h, _, _, _ => by
  obtain ⟨rfl, rfl, rfl⟩ := trodAll_nil h
  exact trodAll_mk0
 | t :: ts, _, _, _, h, ht, hs, hsp => by
  obtain ⟨v, vs', d, ds', p, q, rfl, rfl, rfl, ⟨n, h1⟩, h2⟩ := trodAll_cons h
  have hr := (ht t List.mem_cons_self).1
  exact ⟨p, q, ⟨n, DataW.trod_stays (kids_book hl hr) (book_sized hr) (fun h => by cases h) ⟨(ht t List.mem_cons_self).2, book_self t⟩ h1 (fun x hx => hs x (List.mem_append_left _ hx)) (fun x hx => hsp x (List.mem_append_left _ hx))⟩,
   z88 hl h2 (fun u hu => ht u (List.mem_cons_of_mem _ hu)) (fun x hx => hs x (List.mem_append_right _ hx)) (fun x hx => hsp x (List.mem_append_right _ hx)), rfl⟩
theorem zrt (hl : laidOutB P = true) {f : Func} {s : ChangeSpec} {apart fresh handsOn again : Bool} {w' : World} {args : Array Value} {ds gs : List (DataW H)} {before : List MemPlace} {foot : Nat → Prop} {tb : TypeId}
  (hW : DataW.Whole enc P f.params.toList s.vars apart w args.toList ds gs before) (hv : s.vars = []) (hs : ∀ ds' : List (DataW H), ds'.length = ds.length → s.fn H ds' = { results := [.lit (.bool true)], args := ds' })
  (ht : ∀ t ∈ f.params.toList, P.readableRec t = true ∧ t < P.types.size) (hr : f.resultTypes = #[tb]) (hb : P.underlying tb = some .bool) (g : Good w foot w') (hf : ∀ b, ¬ foot b) :
  s.post enc P f apart fresh handsOn again w args (.bool true) w' := by
 have hlt := hW.lt
 obtain ⟨p, q, h1, h2, he, hz, hn⟩ := hW
 rw [hv] at h2
 obtain ⟨rfl, rfl⟩ := trodVars_none h2
 rw [List.append_nil] at he
 subst he
 have hold : ∀ x ∈ before, (fun b => decide (b < w.heap.size)) x.block = true := fun x hx => by simpa using hlt x hx
 have hfn := hs (ds ++ []) (by simp)
 have hargs : ∀ sp : Nat → Bool, (∀ x ∈ before, sp x.block = true) → DataW.TrodAll enc P w' 0 sp true f.params.toList args.toList (s.fn H (ds ++ [])).args before := fun sp hsp => by
  rw [hfn, List.append_nil]
  exact z88 hl h1 ht (fun x hx => zuw g hf (hlt x hx)) hsp
 have hres : ∀ (b : Nat) (sp : Nat → Bool) (hd : Bool), DataW.TrodAll enc P w' b sp hd f.resultTypes.toList ((Value.bool true).resultList f.resultTypes.size) (s.fn H (ds ++ [])).results [] := fun b sp hd => by
  rw [hfn, hr]
  exact trodAll_mk1 ⟨1, by simp [DataW.trod, Value.cells, hb]⟩
 have hvars : ∀ sp : Nat → Bool, DataW.TrodVars enc P w' sp s.vars (s.fn H (ds ++ [])).vars [] := fun sp => by
  rw [hfn, hv]
  rfl
 refine ⟨ds, [], before, [], before, [], ⟨before, [], h1, by rw [hv]; rfl, by simp, hz, hn⟩, hres _ _ _, hargs _ hold, hvars _, World.keptBut_mono (fun x hx => ⟨hx, ?_⟩) (ztx g hf (· ∈ before)), fun _ => ?_⟩
 · simpa using hx
 · refine ⟨ok_one hr rfl (okWide_bool_mk hb _), _, _, ([] ++ before) ++ [], ⟨[] ++ before, [], trodAll_append (hargs _ (fun _ _ => rfl)) (hres _ _ _), hvars _, rfl, ?_, ?_⟩, ?_⟩
   · intro b off hp
     have hp : MemPlace.cell b off ∈ before := by simpa using hp
     have hb := hlt _ hp
     have : w'.frozen? ⟨b, off, none⟩ = w.frozen? ⟨b, off, none⟩ := by
      unfold World.frozen?
      rw [g.blk b hb (hf b)]
     rw [this]
     exact hz b off hp
   · intro ha
     simpa using hn ha
   · intro x hx _
     simpa using hx
theorem law_true {f : FuncId} {args : List TV} (hgl : Gl P w z6m) (h : AC P f args [] (cb true) []) {vals : List Value} (hv : LRep (TRep w z6m β0) args vals) :
  Calls P f vals.toArray w fun e w' => e = .returned (.bool true) ∧ ∃ foot, (∀ b, ¬ foot b) ∧ Good w foot w' := by
 have hX : (fun b => (fun _ : Nat => False) b ∨ Own (fun o => ([] : List AObj).getD o .gone) β0 b) = z6m := none_own (fun _ h => h)
 refine (h.2.2 w vals β0 (fun _ => False) (fun o b h => by cases h) (fun b h => h.elim) (hgl.sub fun b ⟨o, h5, _⟩ => by simp [isLive] at h5) ⟨fun o b h _ => by simp [isLive] at h, fun o h => by simp [isLive] at h, fun o o' b h => by simp [isLive] at h, fun o b h => by cases h⟩ (by rw [hX]; exact hv)).mono fun e w' ⟨v, β', h1, h2, h3, h4, _⟩ => ?_
 subst h1
 cases h4 with
 | a _ _ h4 =>
  cases h4 with
  | fz _ _ h4 =>
   cases h4
   exact ⟨rfl, _, fun b ⟨o, h5, _⟩ => by simp [isLive] at h5, h2⟩
end
end Go.AM

namespace Go.AM
open Go.ChangeShapes Go.WideShapes Go.ChangeAt Go.RowKit
section
variable {H : Type} {enc : TypeId × Value → H} {P : Program} {w : World}
theorem zm4 {n : Int} (h : (Lit.int .i64 n).wf = true) : -9223372036854775808 ≤ n ∧ n ≤ 9223372036854775807 := by
 simp only [Lit.wf, IntKind.min, IntKind.max, IntKind.signed, IntKind.bits, Bool.and_eq_true, decide_eq_true_eq, if_true] at h; omega
abbrev TmI := { t : Tm // okI t }
theorem zhj : ∀ l : List TmI, Tm.bks (l.map (·.1)) = z68 (fun t : TmI => t.1.bk) l
 | [] => rfl
 | t :: l => by rw [List.map_cons, Tm.bks, z68, zhj l]
theorem okIs_val (l : List TmI) : okIs (l.map (·.1)) := zrh fun t ht => by
 obtain ⟨u, _, rfl⟩ := List.mem_map.1 ht
 exact u.2
theorem rd_termI {b : DataW H → Nat} {bs : List (DataW H) → Nat} (hb : Bulk b bs) {T : TypeId} {f0 f1 f2 f3 : Field} (hT : TmTy P T f0 f1 f2 f3) : ∀ fuel, RdN enc P w b fuel T (fun t : TmI => FT t.1) (fun t => t.1.bk) := by
 intro fuel
 induction fuel using Nat.strongRecOn with
 | _ fuel ih =>
  intro cs x h
  obtain ⟨xs, n, rfl, rfl, hl, hxl, hf⟩ := DataW.trod_struct hT.str h
  rw [hT.cT] at hl
  match cs, hl with
  | [v0, v1, v2, v3], _ =>
  match xs, hxl with
  | [x0, x1, x2, x3], _ =>
  have g0 := hf 0 f0 rfl
  have g1 := hf 1 f1 rfl
  have g2 := hf 2 f2 rfl
  have g3 := hf 3 f3 rfl
  rw [hT.o0, hT.c0] at g0
  rw [hT.o1, hT.c1] at g1
  rw [hT.o2, hT.c2] at g2
  rw [hT.o3, hT.c3] at g3
  obtain ⟨k, r0, _⟩ := zqt (b := b) hT.u0 hb.one n _ _ g0
  obtain ⟨s, r1, z1⟩ := rd_str (b := b) hT.u1 hb.str n _ _ g1
  have z1 : s.length + 1 ≤ b x1.1 := z1
  obtain ⟨m, r2, _⟩ := rd_num (b := b) hT.u2 hb.one n _ _ g2
  obtain ⟨l, r3, z3⟩ := zaz (F := fun t : TmI => FT t.1) (sz := fun t : TmI => t.1.bk) hb.cons hb.one hb.slice hT.u3 hT.cT (by omega) (fun t => z2k t.1) (fun k hk => ih k (by omega)) _ _ g3
  have z3 : z68 (fun t : TmI => t.1.bk) l + 1 ≤ b x3.1 := z3
  refine ⟨⟨.mk k s m.1 (l.map (·.1)), zm4 m.2, okIs_val l⟩, ?_, ?_⟩
  · have e : FTs (l.map (·.1)) = l.map fun t : TmI => FT t.1 := by rw [z2c, List.map_map]; rfl
    show LRep (FRep w z6m) (FT (.mk k s m.1 (l.map (·.1)))) _
    rw [FT, e]
    exact .cons (LRep.one r0) (.cons (LRep.one r1) (.cons (LRep.one r2) (.cons (LRep.one r3) .nil)))
  · have := hb.one x0.1
    show Tm.bk (.mk k s m.1 (l.map (·.1))) ≤ b (.agg [x0.1, x1.1, x2.1, x3.1])
    simp only [Tm.bk, zhj]
    have h9 := hb.agg [x0.1, x1.1, x2.1, x3.1]
    simp only [hb.cons, hb.nil] at h9
    omega
end
end Go.AM

namespace Go.AM
open Go.ChangeShapes Go.WideShapes Go.ChangeAt Go.RowKit
section
variable {H : Type} {enc : TypeId × Value → H} {P : Program} {w : World}
theorem zvi {b : DataW H → Nat} {bs : List (DataW H) → Nat} (hb : Bulk b bs) {T S : TypeId} {n : Nat} {α : Type} {F : α → List FV} {sz : α → Nat} (hF : ∀ a, (F a).length = n) (hn : P.cellsOf T = n) (hn0 : 0 < n) (hz : ∀ a, 1 ≤ sz a)
  (h1 : ∀ k, RdN enc P w b k T F sz) (hS : P.underlying S = some (.slice T)) {r : Reach} {base : Nat} {v : Value} {d : DataW H} {ps : List MemPlace}
  (hv : Value.okWide P w r base S v) (hd : DataW.Trod enc P w 0 (fun _ => true) true S v d ps) : ∃ l : List α, TRep w z6m β0 (.c (.a (.fz (.sl false n (l.map F))))) v ∧ z68 sz l + 1 ≤ b d := by
 obtain ⟨a, len, cap, rfl⟩ := okWide_slice hS hv
 obtain ⟨fuel, hf⟩ := hd
 obtain ⟨l, h1, h2⟩ := zaz hb.cons hb.one hb.slice hS hn hn0 hF (fun k _ => h1 k) _ _ hf
 have h1 : LRep (FRep w z6m) [.sl false n (l.map F)] [_] := h1
 exact ⟨l, .a _ _ (.fz _ _ h1.one), h2⟩
abbrev IBT := { n : Int // -9223372036854775808 ≤ n ∧ n ≤ 9223372036854775807 } × Bool × TmI
abbrev FIBT (v : IBT) : List FV := .int .i64 v.1.1 :: .bool v.2.1 :: FT v.2.2.1
structure IBTTy (P : Program) (T Tt : TypeId) (f0 f1 f2 : Field) : Prop where
 str : P.underlying T = some (.struct #[f0, f1, f2])
 u0 : P.underlying f0.type = some (.int .i64)
 u1 : P.underlying f1.type = some .bool
 t2 : f2.type = Tt
 o0 : f0.offset = 0
 o1 : f1.offset = 1
 o2 : f2.offset = 2
 c0 : P.cellsOf f0.type = 1
 c1 : P.cellsOf f1.type = 1
 cT : P.cellsOf T = 6
theorem rd_ibt {b : DataW H → Nat} {bs : List (DataW H) → Nat} (hb : Bulk b bs) {T Tt : TypeId} {g0 g1 g2 g3 f0 f1 f2 : Field} (hT : TmTy P Tt g0 g1 g2 g3) (hV : IBTTy P T Tt f0 f1 f2) (fuel : Nat) :
  RdN enc P w b fuel T FIBT (fun v => v.2.2.1.bk + 2) := by
 intro cs x h
 obtain ⟨xs, n, rfl, rfl, hl, hxl, hf⟩ := DataW.trod_struct hV.str h
 rw [hV.cT] at hl
 match cs, hl with
 | [v0, v1, v2, v3, v4, v5], _ =>
 match xs, hxl with
 | [x0, x1, x2], _ =>
 have q0 := hf 0 f0 rfl
 have q1 := hf 1 f1 rfl
 have q2 := hf 2 f2 rfl
 rw [hV.o0, hV.c0] at q0
 rw [hV.o1, hV.c1] at q1
 rw [hV.o2, hV.t2, hT.cT] at q2
 obtain ⟨i, r0, z0⟩ := rd_num (b := b) hV.u0 hb.one n _ _ q0
 obtain ⟨p, r1, z1⟩ := rd_bool (b := b) hV.u1 hb.one n _ _ q1
 obtain ⟨t, r2, z2⟩ := rd_termI hb hT n _ _ q2
 have z2 : t.1.bk ≤ b x2.1 := z2
 have z0 : 1 ≤ b x0.1 := z0
 refine ⟨(⟨i.1, zm4 i.2⟩, p, t), .cons (LRep.one r0) (.cons (LRep.one r1) r2), ?_⟩
 show t.1.bk + 2 ≤ b (.agg [x0.1, x1.1, x2.1])
 have h9 := hb.agg [x0.1, x1.1, x2.1]
 simp only [hb.cons, hb.nil] at h9
 omega
end
end Go.AM

set_option maxRecDepth 100000
open Go Go.Proofs
namespace Go.AM
theorem runH_sz {s : Sto} (hs : OKS s) : ∀ (F : Nat) (t : Tm), validB t = true → Fit F t → (runH s F t).2.1 = 0 → (runH s F t).1.sz + 42000 * (F - (runH s F t).2.2) ≤ t.sz + 42000 * F := by
 intro F
 induction F with
 | zero => intro t hv hf h; rw [runH] at h ⊢; split <;> rename_i q
           · exact Nat.le_refl _
           · rw [if_neg q] at h; cases h
 | succ F ih =>
  intro t hv hf h
  rw [runH] at h ⊢
  split
  · exact Nat.le_refl _
  · rename_i q
    rw [if_neg q] at h
    split
    · rename_i q2; rw [if_pos q2] at h; cases h
    · rename_i q2
      rw [if_neg q2] at h
      have q1 : (z0b s t).2 = 1 := by rcases zfv s t with q' | q' | q'; · exact absurd q' q
                                      · exact q'
                                      · exact absurd q' q2
      obtain ⟨v, ff⟩ := z8c hs hv hf q1
      have h1 := ih _ v ff h
      have h2 := stepS_sz hs hv hf q1
      simp only
      omega
theorem z70 {fu : Int → Tm → Tm × Int × Int} (hfu : ∀ g t, 0 ≤ g → 0 ≤ (fu g t).2.2 ∧ (fu g t).2.2 ≤ g) {A : Tm → Tm → Prop} :
  ∀ (l : List Tm) (sk : Bool) (g : Int), 0 ≤ g → (∀ u ∈ (if sk = true then l.drop 1 else l), ∀ g' : Int, 0 ≤ g' → g' ≤ g → (fu g' u).2.1 = 0 → A u (fu g' u).1 ∧ (fu g' u).1.sz + 42000 * (fu g' u).2.2.toNat ≤ u.sz + 42000 * g'.toNat) →
  (z0h fu sk l g).2.1 = 0 → Tm.szs (z0h fu sk l g).1 + 42000 * (z0h fu sk l g).2.2.toNat ≤ Tm.szs l + 42000 * g.toNat ∧ (z0h fu sk l g).1.length = l.length ∧ (sk = true → hd (z0h fu sk l g).1 = hd l) ∧ All2 A (if sk = true then l.drop 1 else l) (if sk = true then (z0h fu sk l g).1.drop 1 else (z0h fu sk l g).1)
 | [], sk, g, _, _, _ => by
  refine ⟨Nat.le_refl _, rfl, fun _ => rfl, ?_⟩
  cases sk <;> trivial
 | t :: l, true, g, hg, h, h0 => by
  have := z70 hfu l false g hg h h0
  refine ⟨?_, by rw [z0h, List.length_cons, this.2.1]; rfl, fun _ => rfl, this.2.2.2⟩
  have h1 := this.1
  show t.sz + Tm.szs _ + _ ≤ t.sz + Tm.szs l + _
  have e : (z0h fu true (t :: l) g).2.2 = (z0h fu false l g).2.2 := rfl
  rw [e]; omega
 | t :: l, false, g, hg, h, h0 => by
  have eK : z0h fu false (t :: l) g = if (fu g t).2.1 ≠ 0 then ([], (fu g t).2) else ((fu g t).1 :: (z0h fu false l (fu g t).2.2).1, (z0h fu false l (fu g t).2.2).2) := rfl
  rw [eK] at h0 ⊢
  by_cases q : (fu g t).2.1 ≠ 0
  · rw [if_pos q] at h0; exact absurd h0 q
  · rw [if_neg q] at h0 ⊢
    have q : (fu g t).2.1 = 0 := by simpa using q
    have h1 := hfu g t hg
    have h2 := h t List.mem_cons_self g hg (Int.le_refl _) q
    have h3 := z70 hfu l false (fu g t).2.2 h1.1 (fun u hu g' a b c => h u (List.mem_cons_of_mem _ hu) g' a (by omega) c) h0
    refine ⟨?_, by simp only [List.length_cons, h3.2.1], fun e => (by cases e), ⟨h2.1, h3.2.2.2⟩⟩
    have h4 := h3.1
    have h5 := h2.2
    simp only [Tm.szs]
    omega
theorem zba {α β : Type} {R : α → β → Prop} {Q : β → Prop} (h : ∀ x y, R x y → Q y) : ∀ {a : List α} {b : List β}, All2 R a b → ∀ y ∈ b, Q y
 | [], [], _, y, hy => by cases hy
 | x :: a, z :: b, hr, y, hy => by
  rcases List.mem_cons.1 hy with rfl | hy
  · exact h _ _ hr.1
  · exact zba h hr.2 y hy
 | [], _ :: _, h, _, _ => h.elim
 | _ :: _, [], h, _, _ => h.elim
theorem zsh {l : List Tm} {y : Tm} (h : y ∈ l) : y = hd l ∨ y ∈ l.drop 1 := by
 cases l with
 | nil => cases h
 | cons x l => exact (List.mem_cons.1 h).imp id id
theorem zev {l : List Tm} : z2a l = true ↔ ∀ u ∈ l, validB u = true := by
 induction l with
 | nil => exact ⟨(fun _ u hu => nomatch hu), fun _ => rfl⟩
 | cons x l ih =>
  rw [z2a, Bool.and_eq_true, ih]
  exact ⟨fun h u hu => (List.mem_cons.1 hu).elim (fun e => e ▸ h.1) (h.2 u), fun h => ⟨h x List.mem_cons_self, fun u hu => h u (List.mem_cons_of_mem _ hu)⟩⟩
theorem zq7 {k n : Int} {s : List UInt8} {l us : List Tm} (hv : validB (.mk k s n l) = true) (hl : us.length = l.length) (hk : k = 6 → hd us = hd l) (hu : k = 5 ∨ k = 6 → ∀ u ∈ us, validB u = true) : validB (.mk k s n us) = true := by
 by_cases h5 : k = 5
 · subst h5
   rw [valid5] at hv ⊢
   simp only [Bool.and_eq_true] at hv ⊢
   exact ⟨⟨hv.1.1, by rw [hl]; exact hv.1.2⟩, zev.2 (hu (.inl rfl))⟩
 · by_cases h6 : k = 6
   · subst h6
     rw [valid6] at hv ⊢
     simp only [Bool.and_eq_true] at hv ⊢
     rw [hk rfl, hl]
     exact ⟨hv.1, zev.2 (hu (.inr rfl))⟩
   · have := okB0 (z02 _ hv) h5 h6
     subst this
     have : us = [] := List.eq_nil_of_length_eq_zero hl
     subst this; exact hv
theorem z3h {s : Sto} (hs : OKS s) : ∀ (D : Nat) (f : Int) (t : Tm), f.toNat ≤ D → 0 ≤ f → validB t = true → Fit f.toNat t → (z08 s D f t).2.1 = 0 →
  (validB (z08 s D f t).1 = true ∧ bd M61 (z08 s D f t).1) ∧ (z08 s D f t).1.sz + 42000 * (z08 s D f t).2.2.toNat ≤ t.sz + 42000 * f.toNat
 | 0, f, t, _, _, _, _, h => by rw [z08] at h; cases h
 | D + 1, f, t, hD, h0, hv, hf, h => by
  rw [z08] at h ⊢
  split
  · rename_i q; rw [if_pos q] at h; cases h
  rename_i q
  rw [if_neg q] at h
  have hfit := hf.mono (show (f - 1).toNat ≤ f.toNat by omega)
  have hq := z50 hs hv hfit
  have hz := runH_sz hs (f - 1).toNat t hv hfit
  have eh : z5h s (f - 1) t = ((runH s (f - 1).toNat t).1, (runH s (f - 1).toNat t).2.1, f - 1 - ((runH s (f - 1).toNat t).2.2 : Int)) := rfl
  rw [eh] at h ⊢
  generalize runH s (f - 1).toNat t = q at *
  obtain ⟨x, er, u⟩ := q
  simp only at hq hz h ⊢
  obtain ⟨hu, hq⟩ := hq
  rw [zce] at h ⊢
  split
  · rename_i q2; rw [if_pos q2] at h; exact absurd h q2
  rename_i q2
  rw [if_neg q2] at h
  have he : er = 0 := by simpa using q2
  subst he
  rcases hq with ⟨_, hvx, hfx, _⟩ | ⟨h80, _⟩
  · have hz := hz rfl
    obtain ⟨k, str, n, l⟩ := x
    simp only [Tm.l, Tm.k, Tm.s, Tm.n] at h ⊢
    have hg0 : 0 ≤ f - 1 - (u : Int) := by omega
    have hkid : ∀ x ∈ l, k = 5 ∨ k = 6 := fun x hx => by
     by_cases h5 : k = 5 ∨ k = 6
     · exact h5
     · rw [not_or] at h5
       have := okB0 (z02 _ hvx) h5.1 h5.2
       rw [this] at hx; cases hx
    have kid : ∀ x ∈ l, ∀ g' : Int, 0 ≤ g' → g' ≤ f - 1 - (u : Int) → (z08 s D g' x).2.1 = 0 → (validB (z08 s D g' x).1 = true ∧ bd M61 (z08 s D g' x).1) ∧ (z08 s D g' x).1.sz + 42000 * (z08 s D g' x).2.2.toNat ≤ x.sz + 42000 * g'.toNat := fun x hx g' a b c =>
     z3h hs D g' x (by omega) a (z06 hvx (hkid x hx) x hx) ((hfx.kid (show x ∈ Tm.l (.mk k str n l) from hx)).mono (by omega)) c
    unfold z7a at h ⊢
    split
    · rename_i q3; rw [if_pos q3] at h; exact absurd h q3
    rename_i q3
    have h9 : (z0h (z08 s D) (k == 6) l (f - 1 - (u : Int))).2.1 = 0 := by simpa using q3
    have sub : ∀ x ∈ (if (k == 6) = true then l.drop 1 else l), x ∈ l := fun x hx => by
     split at hx
     · exact List.mem_of_mem_drop hx
     · exact hx
    have hk := z70 (A := fun _ y => validB y = true ∧ bd M61 y) (z22 s D) l (k == 6) (f - 1 - (u : Int)) hg0 (fun x hx g' a b c => kid x (sub x hx) g' a b c) h9
    generalize z0h (z08 s D) (k == 6) l (f - 1 - (u : Int)) = r at *
    obtain ⟨us, er2, g2⟩ := r
    simp only at hk ⊢
    obtain ⟨k1, k2, k3, k4⟩ := hk
    have k5 := zba (Q := fun y => validB y = true ∧ bd M61 y) (fun _ _ h => h) k4
    have all : ∀ y ∈ us, validB y = true ∧ bd M61 y := fun y hy => by
     by_cases h6 : (k == 6) = true
     · rcases zsh hy with e | e
       · rw [k3 h6] at e
         have hl : l ≠ [] := fun e2 => by rw [e2] at k2; rw [List.eq_nil_of_length_eq_zero k2] at hy; cases hy
         have hm : y ∈ l := by cases l with
          | nil => exact absurd rfl hl
          | cons z l => rw [e]; exact List.mem_cons_self
         exact ⟨z06 hvx (hkid y hm) y hm, z1v hfx.bd.2 hm⟩
       · exact k5 y (by rw [if_pos h6]; exact e)
     · exact k5 y (by rw [if_neg h6]; exact hy)
    refine ⟨⟨zq7 hvx k2 (fun e => k3 (by have e : k = 6 := e; rw [e]; rfl)) (fun _ y hy => (all y hy).1), ⟨hfx.bd.1, z63 fun y hy => (all y hy).2⟩⟩, ?_⟩
    simp only [Tm.sz] at hz ⊢
    omega
  · cases h80
def FullV (s : Sto) (f : Int) (t : Tm) : Tm × Int × Int :=
 if validB t = true then (if (z08 s f.toNat f t).2.1 = 0 then (z04 (z08 s f.toNat f t).1, (z08 s f.toNat f t).2.2, 0) else (noT, 0, (z08 s f.toNat f t).2.1)) else (noT, 0, 1)
theorem zha (s : Sto) (D : Nat) {f : Int} (t : Tm) (h : f ≤ 0) : z08 s D f t = (noT, 80, f) := by
 cases D with
 | zero => rfl
 | succ D => rw [z08, if_pos h]
def fullR (s : Sto) (f : Int) (t : Tm) : Tm × Int × Int :=
 if validB t = true then (if (z08 s f.toNat f t).2.1 = 0 then ((z08 s f.toNat f t).1, (z08 s f.toNat f t).2.2, 0) else (noT, 0, (z08 s f.toNat f t).2.1)) else (noT, 0, 1)
theorem zkf (s : Sto) (hs : OKS s) (f : Int) (t : Tm) (h0 : 0 - 9223372036854775808 ≤ f) (hz : t.sz ≤ B) (hf : validB t = true → Fit f.toNat t) :
  AC Tryz.prog 67 [aT t, ci f, .c (.fn (.func 68) [(false, [.ep 0 2 0 0])] [])] (oS s) (aHd (fullR s f t)) (oS s) := by
 have h1 := z36 t hz
 have h2 := fun hv => c_sfull s hs f.toNat f t (Nat.le_refl _) h0 hv (hf hv)
 have hV : fullR s f t = if validB t = true then (if (z08 s f.toNat f t).2.1 = 0 then ((z08 s f.toNat f t).1, (z08 s f.toNat f t).2.2, 0) else (noT, 0, (z08 s f.toNat f t).2.1)) else (noT, 0, 1) := rfl
 rw [hV]
 generalize z08 s f.toNat f t = z at *
 obtain ⟨z1, z2, z3⟩ := z
 obtain ⟨k, str, n, l⟩ := t
 refine AC.vc hP sh lv67 (Nat.le_refl _) (by simp [isLive]) (by simp) (Eq.mpr (v67_F68 k str n (FTs l) ..) ?_)
 refine ⟨_, h1, z00 (fun h => ?_) (fun h => ⟨(z1, z2, z3), h2 (by simpa using h), z00 (fun h' => ?_) (fun h' => ?_)⟩)⟩
 · rw [if_neg (by simpa using h)]; exact ⟨leHd (l := []) z0r, rfl⟩
 · have h : validB (.mk k str n l) = true := by simpa using h
   rw [if_pos h, if_neg (by simpa using h')]; exact ⟨leHd (l := []) z0r, rfl⟩
 · have h : validB (.mk k str n l) = true := by simpa using h
   rw [if_pos h, if_pos (by simpa using h')]; exact ⟨.refl _, rfl⟩
theorem zc6 (s : Sto) (hs : OKS s) (f : Int) (t : Tm) (h0 : 0 - 9223372036854775808 ≤ f) (hz : t.sz ≤ B) (hf : validB t = true → Fit f.toNat t) : AC Tryz.prog 21 [aS 0, aT t, ci f] (oS s) (aHd (FullV s f t)) (oS s) := by
 have h := zkf s hs f t h0 hz hf
 have hsh : validB t = true → (z08 s f.toNat f t).2.1 = 0 → AC Tryz.prog 26 [aT (z08 s f.toNat f t).1] [] (aT (z04 (z08 s f.toNat f t).1)) [] := fun hv he => by
  have h0 : 0 ≤ f := by
   rcases Int.le_total 0 f with q | q
   · exact q
   · rw [zha s _ t q] at he; cases he
  obtain ⟨⟨a, b⟩, c⟩ := z3h hs f.toNat f t (Nat.le_refl _) h0 hv (hf hv) he
  have := (hf hv).2.1
  have h3 := zmr (z08 s f.toNat f t).1 (by omega) b
  rw [if_pos a] at h3
  exact h3
 have e1 : FullV s f t = if validB t = true then (if (z08 s f.toNat f t).2.1 = 0 then (z04 (z08 s f.toNat f t).1, (z08 s f.toNat f t).2.2, 0) else (noT, 0, (z08 s f.toNat f t).2.1)) else (noT, 0, 1) := rfl
 have e2 : fullR s f t = if validB t = true then (if (z08 s f.toNat f t).2.1 = 0 then ((z08 s f.toNat f t).1, (z08 s f.toNat f t).2.2, 0) else (noT, 0, (z08 s f.toNat f t).2.1)) else (noT, 0, 1) := rfl
 have go : ∀ z : Tm × Int × Int, AC Tryz.prog 67 [aT t, ci f, .c (.fn (.func 68) [(false, [.ep 0 2 0 0])] [])] (oS s) (aHd z) (oS s) → ∀ r : TV, br (z.2.2 != 0) (TV.Le (.tup [(true, [.a (.fz (.int .i64 0)), .a (.fz (.str [])), .a (.fz (.int .i64 0)), .a (.fz .nils)]), (false, [.a (.fz (.int .i64 0))]), (false, [.a (.fz (.int .i64 z.2.2))])]) r ∧ oS s = oS s)
   (∃ u : Tm, AC Tryz.prog 26 [aT z.1] [] (aT u) [] ∧ TV.Le (.tup [(true, cT u), (false, [.a (.fz (.int .i64 z.2.1))]), (false, [.a (.fz (.int .i64 0))])]) r ∧ oS s = oS s) → AC Tryz.prog 21 [aS 0, aT t, ci f] (oS s) r (oS s) := fun z hz r hb => by
  obtain ⟨k, str, n, l⟩ := t
  refine AC.vc hP sh lv21 (Nat.le_refl _) (by simp [isLive]) (by simp) (Eq.mpr (v21 k str n (FTs l) ..) ?_)
  exact ⟨z, hz, hb⟩
 refine go _ h _ ?_
 rw [e1, e2]
 by_cases hv : validB t = true
 · rw [if_pos hv, if_pos hv]
   by_cases he : (z08 s f.toNat f t).2.1 = 0
   · rw [if_pos he, if_pos he]
     exact z00 (fun h => by cases h) (fun _ => ⟨_, hsh hv he, .refl _, rfl⟩)
   · rw [if_neg he, if_neg he]
     exact z00 (fun _ => ⟨leHd (l := []) z0r, rfl⟩) (fun h => absurd (by simpa using h) he)
 · rw [if_neg hv, if_neg hv]
   exact z00 (fun _ => ⟨leHd (l := []) z0r, rfl⟩) (fun h => by cases h)
structure OKA (s : Sto) (n : Nat) : Prop where
 ok : OKS s
 V : s.V.length ≤ n
 T : s.T.length ≤ n
 tr : OKT s
 wf : ∀ i ∈ s.V, i.bd = false → i.v = noT
 nn : ∀ i ∈ s.V, i.bd = true → i.v.bk ≤ B
theorem z1y (s : Sto) (x : Int) (t : Tm) : (bindS s x t).V.length = s.V.length := by unfold bindS; split <;> simp
theorem OKS.bindA {s : Sto} {x : Int} {t : Tm} (h : OKS s) (hz : t.sz ≤ 40000) (hb : bd 2199023255552 t) : OKS (bindS s x t) := by
 by_cases q : z3z s x t = true
 · rw [(z25 q).1]
   intro i hi hbd
   rcases List.mem_or_eq_of_mem_set hi with hi | rfl
   · exact h i hi hbd
   · refine ⟨?_, hz, hb⟩
     simp only [z3z, Bool.and_eq_true] at q
     exact q.2.2.1
 · rw [(z49 (by simpa using q)).1]; exact h
theorem z77 {s : Sto} {x : Int} {t : Tm} (q : z3z s x t = true) : 0 ≤ x ∧ x < (s.V.length : Int) := by
 simp only [z3z, Bool.and_eq_true, inB, decide_eq_true_eq] at q
 exact q.1
theorem OKA.bind {s : Sto} {n : Nat} {x : Int} {t : Tm} (h : OKA s n) (hz : t.sz ≤ 40000) (hb : bd 2199023255552 t) (hk : t.bk ≤ B) : OKA (bindS s x t) (n + 1) := by
 have h1 := h.V
 have h2 := h.T
 by_cases q : z3z s x t = true
 · have hx := z77 q
   refine ⟨h.ok.bindA hz hb, by rw [z1y]; omega, by rw [(z25 q).1]; simp; omega, fun y hy => ?_, fun i hi hbd => ?_, fun i hi hbd => ?_⟩
   · rw [z1y]
     rw [(z25 q).1] at hy
     rcases List.mem_append.1 hy with hy | hy
     · exact h.tr y hy
     · simp at hy; subst hy; exact hx
   · rw [(z25 q).1] at hi
     rcases List.mem_or_eq_of_mem_set hi with hi | rfl
     · exact h.wf i hi hbd
     · cases hbd
   · rw [(z25 q).1] at hi
     rcases List.mem_or_eq_of_mem_set hi with hi | rfl
     · exact h.nn i hi hbd
     · exact hk
 · rw [(z49 (by simpa using q)).1]
   exact ⟨h.ok, by omega, by omega, h.tr, h.wf, h.nn⟩
theorem OKA.fresh {s : Sto} {n : Nat} (h : OKA s n) (lv : Int) : OKA (freshS s lv) (n + 1) := by
 have h1 := h.V
 have h2 := h.T
 have hl : (freshS s lv).V.length = s.V.length + 1 := by simp [freshS]
 refine ⟨fun i hi hb => ?_, by omega, by simp only [freshS]; omega, fun y hy => ?_, fun i hi hbd => ?_, fun i hi hbd => ?_⟩
 · rcases List.mem_append.1 hi with hi | hi
   · exact h.ok i hi hb
   · simp at hi; subst hi; cases hb
 · rw [hl]; have := h.tr y hy; omega
 · rcases List.mem_append.1 hi with hi | hi
   · exact h.wf i hi hbd
   · simp at hi; subst hi; rfl
 · rcases List.mem_append.1 hi with hi | hi
   · exact h.nn i hi hbd
   · simp at hi; subst hi; cases hbd
theorem OKA.nil : OKA ⟨[], []⟩ 0 := ⟨(fun i hi => nomatch hi), Nat.le_refl _, Nat.le_refl _, (fun i hi => nomatch hi), (fun i hi => nomatch hi), (fun i hi => nomatch hi)⟩
theorem OKA.more {s : Sto} {n m : Nat} (h : OKA s n) (hm : n ≤ m) : OKA s m := ⟨h.ok, Nat.le_trans h.V hm, Nat.le_trans h.T hm, h.tr, h.wf, h.nn⟩
end Go.AM

set_option maxRecDepth 100000
open Go Go.Proofs
namespace Go.AM
abbrev sNil : Sto := ⟨[], []⟩
end Go.AM

set_option maxRecDepth 100000
open Go Go.Proofs

set_option maxRecDepth 100000
open Go Go.Proofs
namespace Go.AM
theorem ze5 (s : Sto) : ∀ (F : Nat) (t : Tm) (d : Nat), (runH s F t).2.1 = 0 → runH s (F + d) t = runH s F t
 | 0, t, d, h => by
  have h0 : (z0b s t).2 = 0 := by
   by_cases q : (z0b s t).2 = 0
   · exact q
   · rw [runH, if_neg q] at h; cases h
  have e : ∀ F, runH s F t = (t, 0, 0) := fun F => by
   cases F with
   | zero => rw [runH, if_pos h0]
   | succ F => rw [runH, if_pos h0]
  rw [e, e]
 | F + 1, t, d, h => by
  rw [show F + 1 + d = (F + d) + 1 by omega]
  rw [runH] at h
  rw [runH, runH]
  split
  · rfl
  · rename_i q
    rw [if_neg q] at h
    split
    · rfl
    · rename_i q2
      rw [if_neg q2] at h
      rw [ze5 s F _ d h]
end Go.AM

set_option maxRecDepth 100000
open Go Go.Proofs
namespace Go.AM
theorem zcy {fr by_ : Int} {k n : Int} {s : List UInt8} {l : List Tm} (d : Int) (hk : k = 5 ∨ k = 6) : shT fr by_ (.mk k s n l) d = .mk k s n (z07 (z0g fr by_) l (d + if (k == 5) = true then 1 else 0)) := zpe _ (zo6 fr by_) k s n l d (by rcases hk with rfl | rfl <;> rfl)
theorem zdf {fr by_ : Int} {k n : Int} {s : List UInt8} {l : List Tm} (d : Int) (h5 : k ≠ 5) (h6 : k ≠ 6) : shT fr by_ (.mk k s n l) d = z0g fr by_ (.mk k s n l) d := zp6 _ k s n l d (by simp [h5, h6])
theorem shT_k (fr by_ : Int) (t : Tm) (d : Int) : (shT fr by_ t d).k = t.k := zta _ (zo6 fr by_) t d
theorem walkL_hd (fr by_ : Int) (l : List Tm) (d : Int) : (hd (z07 (z0g fr by_) l d)).k = (hd l).k := by
 cases l with
 | nil => rfl
 | cons x l => exact shT_k fr by_ x d
theorem zjk (lf : Tm → Int → Tm) (d : Int) : ∀ a b : List Tm, z07 lf (a ++ b) d = z07 lf a d ++ z07 lf b d
 | [], _ => rfl
 | x :: a, b => by simp only [List.cons_append, z07, zjk lf d a b]
mutual
theorem zeq (fr by_ : Int) : ∀ (t : Tm) (d : Int), z2r (shT fr by_ t d) = z2r t
 | .mk k s n l, d => by
  by_cases hk : k = 5 ∨ k = 6
  · rw [zcy d hk, z2r, z2r, zbk fr by_ l]
    congr 2
    show (k == 6 && (hd (z07 (z0g fr by_) l (d + if (k == 5) = true then 1 else 0))).k == 5) = (k == 6 && (hd l).k == 5)
    rw [walkL_hd]
  · have h5 : k ≠ 5 := fun e => hk (.inl e)
    have h6 : k ≠ 6 := fun e => hk (.inr e)
    rw [zdf d h5 h6]
    unfold z0g
    split <;> rfl
theorem zbk (fr by_ : Int) : ∀ (l : List Tm) (d : Int), z2z (z07 (z0g fr by_) l d) = z2z l
 | [], _ => rfl
 | t :: l, d => by
  have := zeq fr by_ t d
  rw [z07, z2z, z2z, zbk fr by_ l d]
  exact congrArg (· && _) this
end
mutual
theorem zj5 : ∀ (t : Tm) (e j : Int), occF t e = 0 → j < e → occF (shT 0 (-1) t e) j = occF t j
 | .mk k s n l, e, j, ho, hj => by
  by_cases hk : k = 5 ∨ k = 6
  · have h3 : ¬ (k == 3) = true := by rcases hk with rfl | rfl <;> decide
    have a1 : ∀ i, ¬ ((k == 3) = true ∧ (n == i) = true) := fun i q => h3 q.1
    rw [occF, if_neg (a1 e)] at ho
    rw [zcy e hk, occF, occF, if_neg (a1 j), if_neg (a1 j)]
    exact z9p l _ _ ho (by omega)
  · have h5 : k ≠ 5 := fun e => hk (.inl e)
    have h6 : k ≠ 6 := fun e => hk (.inr e)
    rw [zdf e h5 h6]
    by_cases h3 : k = 3
    · subst h3
      have hne : n ≠ e := fun q => by rw [occF, if_pos ⟨rfl, by simp [q]⟩] at ho; cases ho
      unfold z0g
      by_cases hc : e + 0 ≤ n
      · rw [if_pos ⟨rfl, hc⟩]
        show occF (.mk 3 s (n + -1) l) j = _
        have a1 : ¬ (((3 : Int) == 3) = true ∧ (n + -1 == j) = true) := fun q => by have := q.2; simp at this; omega
        have a2 : ¬ (((3 : Int) == 3) = true ∧ (n == j) = true) := fun q => by have := q.2; simp at this; omega
        rw [occF, occF, if_neg a1, if_neg a2]
      · rw [if_neg (fun q => hc q.2)]
    · have h3' : ¬ (k == 3) = true := by simpa using h3
      unfold z0g
      rw [if_neg (fun q => h3' q.1)]
theorem z9p : ∀ (l : List Tm) (e j : Int), occL l e = 0 → j < e → occL (z07 (z0g 0 (-1)) l e) j = occL l j
 | [], _, _, _, _ => rfl
 | t :: l, e, j, ho, hj => by
  simp only [occL] at ho
  have h1 := zj5 t e j (by omega) hj
  have h2 := z9p l e j (by omega) hj
  rw [z07, occL, occL, h2]
  exact congrArg (· + _) h1
end
theorem z43 {x : Tm} (hx : x.k ≠ 6) (a : List Tm) : applyF x a = if a = [] then x else .mk 6 [] 0 (x :: a) := by
 cases a with
 | nil => rfl
 | cons y r =>
  obtain ⟨k, s, n, l⟩ := x
  rw [z6y, if_neg (fun e => hx (show k = 6 by simpa using e.1))]; rfl
theorem zhl {x : Tm} (hx : x.k ≠ 6) (a : List Tm) (i : Int) : occF (applyF x a) i = occF x i + occL a i := by
 rw [z43 hx]
 split
 · rename_i h; subst h; simp [occL]
 · rw [occF, if_neg (by rintro ⟨h, _⟩; cases h)]
   show occL (x :: a) (i + 0) = _
   rw [Int.add_zero]; rfl
theorem zo8 (k n : Int) (s : List UInt8) (x : Tm) (a : List Tm) (z : Tm) : z1g (.mk k s n (x :: a ++ [z])) = (k == 6 && z.k == 3 && z.n == 0 && occF (applyF x a) 0 == 0) := by
 rw [z1g, z4s, show Tm.l (.mk k s n (x :: a ++ [z])) = x :: a ++ [z] from rfl, zob]; rfl
theorem zok {b : Tm} (h : b.k ≠ 6) : z1g b = false := by
 rw [z1g, show (b.k == 6) = false by simpa using h]; rfl
theorem zpl {b : Tm} {e : Int} (hb : okB b = true) (ho : occF b e = 0) (he : 1 ≤ e) : z1g (shT 0 (-1) b e) = z1g b := by
 by_cases h6 : b.k = 6
 · obtain ⟨k, s, n, l⟩ := b
   have h6 : k = 6 := h6
   subst h6
   obtain ⟨x, a, z, rfl, hx6, hx, ha, hz⟩ := z5e hb rfl
   rw [occF, if_neg (by rintro ⟨h, _⟩; cases h)] at ho
   have ho : occL (x :: a ++ [z]) (e + 0) = 0 := ho
   rw [Int.add_zero] at ho
   have hox := z8i ho x List.mem_cons_self
   have hoz := z8i ho z (by simp)
   have hoa : occL a e = 0 := by
    have : ∀ (p q : List Tm), occL (p ++ q) e = occL p e + occL q e := fun p q => by
     induction p with
     | nil => simp [occL]
     | cons y p ih => simp only [List.cons_append, occL, ih]; omega
    rw [this] at ho; simp only [occL] at ho; omega
   rw [zcy e (.inr rfl)]
   show z1g (.mk 6 s n (z07 (z0g 0 (-1)) (x :: a ++ [z]) (e + 0))) = _
   rw [Int.add_zero, zjk, z07, z07, z07, zo8, zo8]
   have e1 : occF (applyF (z0d (z0g 0 (-1)) x e) (z07 (z0g 0 (-1)) a e)) 0 = occF (applyF x a) 0 := by
    rw [zhl hx6, zhl (by show (shT 0 (-1) x e).k ≠ 6; rw [shT_k]; exact hx6), z9p a e 0 hoa (by omega)]
    exact congrArg (· + _) (zj5 x e 0 hox (by omega))
   rw [e1]
   congr 1
   have e2 : (z0d (z0g 0 (-1)) z e).k = z.k := shT_k 0 (-1) z e
   rw [e2]
   by_cases hz3 : z.k = 3
   · obtain ⟨zk, zs, zn, zl⟩ := z
     have hz3 : zk = 3 := hz3
     subst hz3
     have hne : zn ≠ e := fun q => by rw [occF, if_pos ⟨rfl, by simp [q]⟩] at hoz; cases hoz
     congr 1
     show ((shT 0 (-1) (.mk 3 zs zn zl) e).n == 0) = (zn == 0)
     rw [zdf e (by decide) (by decide)]
     unfold z0g
     split
     · rename_i hc
       have hc : e + 0 ≤ zn := hc.2
       show (zn + -1 == 0) = (zn == 0)
       rw [show (zn + -1 == 0) = false by simp; omega, show (zn == 0) = false by simp; omega]
     · rfl
   · rw [show (z.k == 3) = false by simpa using hz3]; simp
 · rw [zok h6, zok (by rw [shT_k]; exact h6)]
mutual
def shB : Tm → Bool
 | .mk k _ _ l => (if (k == 5) = true then !z1g (hd l) else true) && shL l
def shL : List Tm → Bool
 | [] => true
 | t :: l => shB t && shL l
end
theorem z9z : ∀ {l : List Tm} {t : Tm}, shL l = true → t ∈ l → shB t = true
 | x :: l, t, h, hm => by
  simp only [shL, Bool.and_eq_true] at h
  rcases List.mem_cons.1 hm with rfl | hm
  · exact h.1
  · exact z9z h.2 hm
theorem zug : ∀ {l : List Tm}, (∀ t ∈ l, shB t = true) → shL l = true
 | [], _ => rfl
 | t :: l, h => by simp only [shL, h t List.mem_cons_self, zug (l := l) fun u hu => h u (List.mem_cons_of_mem _ hu), Bool.and_self]
theorem shB_l {t : Tm} (h : shB t = true) : shL t.l = true := by
 obtain ⟨k, s, n, l⟩ := t
 rw [shB, Bool.and_eq_true] at h; exact h.2
theorem shB6 {s : List UInt8} {n : Int} {l : List Tm} : shB (.mk 6 s n l) = shL l := by rw [shB]; rfl
mutual
theorem zjv : ∀ t : Tm, okB t = true → shB t = true → z04 t = t
 | .mk k s n l, ho, hs => by
  have hl := zed l (z78 ho) (shB_l hs)
  by_cases h5 : k = 5
  · subst h5
    obtain ⟨rfl, rfl⟩ := zqr ho (.inl rfl)
    obtain ⟨x, rfl, hx⟩ := okB5 ho rfl
    rw [shB, Bool.and_eq_true] at hs
    have hdx : z1g x = false := not_t hs.1
    rw [z04, if_pos (show ((5 : Int) == 5) = true from rfl), hl, show hd [x] = x from rfl, if_neg (by rw [hdx]; simp)]
  · by_cases h6 : k = 6
    · subst h6
      obtain ⟨rfl, rfl⟩ := zqr ho (.inr rfl)
      obtain ⟨x, y, r, rfl, hx6, _⟩ := okB6 ho rfl
      rw [z04, if_neg (by decide), if_pos (show ((6 : Int) == 6) = true from rfl), hl]
      show applyF x (y :: r) = _
      rw [z43 hx6, if_neg (by simp)]
    · rw [z04, if_neg (by simpa using h5), if_neg (by simpa using h6)]
theorem zed : ∀ l : List Tm, okL l = true → shL l = true → z09 l = l
 | [], _, _ => rfl
 | t :: l, ho, hs => by
  simp only [okL, shL, Bool.and_eq_true] at ho hs
  rw [z09, zjv t ho.1 hs.1, zed l ho.2 hs.2]
end
mutual
theorem zmh : ∀ (t : Tm) (e : Int), okB t = true → shB t = true → occF t e = 0 → 0 ≤ e → shB (shT 0 (-1) t e) = true
 | .mk k s n l, e, hk, hs, ho, he => by
  by_cases hin : k = 5 ∨ k = 6
  · rw [zcy e hin]
    have h3 : ¬ (k == 3) = true := by rcases hin with rfl | rfl <;> decide
    rw [occF, if_neg (fun q => h3 q.1)] at ho
    have hb : (0 : Int) ≤ if (k == 5) = true then 1 else 0 := by split <;> omega
    have hl := zi0 l (e + if (k == 5) = true then 1 else 0) (z78 hk) (shB_l hs) ho (by omega)
    rw [shB, hl, Bool.and_true]
    split
    · rename_i h5
      have h5 : k = 5 := by simpa using h5
      subst h5
      obtain ⟨x, rfl, hx⟩ := okB5 hk rfl
      rw [shB, Bool.and_eq_true] at hs
      have hd : z1g x = false := not_t hs.1
      have hox : occF x (e + 1) = 0 := z8i ho x (List.mem_singleton.2 rfl)
      show (!z1g (shT 0 (-1) x (e + 1))) = true
      rw [zpl hx hox (by omega), hd]; rfl
    · rfl
  · have h5 : k ≠ 5 := fun e => hin (.inl e)
    have h6 : k ≠ 6 := fun e => hin (.inr e)
    rw [zdf e h5 h6]
    unfold z0g
    split
    · show shB (.mk k s (n + -1) l) = true
      rw [shB] at hs ⊢; exact hs
    · exact hs
theorem zi0 : ∀ (l : List Tm) (e : Int), okL l = true → shL l = true → occL l e = 0 → 0 ≤ e → shL (z07 (z0g 0 (-1)) l e) = true
 | [], _, _, _, _, _ => rfl
 | t :: l, e, hk, hs, ho, he => by
  simp only [okL, shL, occL, Bool.and_eq_true] at hk hs ho
  have h1 := zmh t e hk.1 hs.1 (by omega) he
  have h2 := zi0 l e hk.2 hs.2 (by omega) he
  rw [z07, shL, h2, Bool.and_true]
  exact h1
end
theorem zii {f : Tm} {a : List Tm} (hf : shB f = true) (ha : shL a = true) : shB (applyF f a) = true := by
 match a, ha with
 | [], _ => exact hf
 | y :: r, ha =>
  obtain ⟨k, s, n, l⟩ := f
  rw [z6y]
  split
  · rw [shB6]
    exact zug fun t ht => by
     rcases List.mem_append.1 ht with ht | ht
     · exact z9z (shB_l hf) ht
     · exact z9z ha ht
  · rw [shB6]
    simp only [shL, Bool.and_eq_true] at ha ⊢
    exact ⟨hf, ha⟩
theorem rest_sh {b : Tm} (hb : okB b = true) (hk : b.k = 6) (h : shB b = true) : shB (z51 b) = true := by
 obtain ⟨k, s, n, l⟩ := b
 obtain ⟨x, a, z, rfl, _⟩ := z5e hb hk
 rw [z4s]
 have hl : shL (x :: a ++ [z]) = true := shB_l h
 exact zii (z9z hl List.mem_cons_self) (zug fun u hu => z9z hl (List.mem_cons_of_mem _ (List.mem_append_left _ hu)))
mutual
theorem zf9 : ∀ t : Tm, okB t = true → shB (z04 t) = true
 | .mk k s n l, ho => by
  have hl := zit l (z78 ho)
  by_cases h5 : k = 5
  · subst h5
    obtain ⟨x, rfl, hx⟩ := okB5 ho rfl
    have hsx : shB (z04 x) = true := by simpa [z09, shL] using hl
    have hox := (z1o x hx).1
    rw [z04, if_pos (show ((5 : Int) == 5) = true from rfl), show hd (z09 [x]) = z04 x from rfl]
    split
    · rename_i hd
      rw [z5w, if_pos hd]
      exact zmh _ 0 (zge hox (zrm hd)).1 (rest_sh hox (zrm hd) hsx) (drop0 hd) (Int.le_refl _)
    · rename_i hd
      rw [shB]
      show ((!z1g (z04 x)) && shL [z04 x]) = true
      rw [show z1g (z04 x) = false by simpa using hd]
      simp [shL, hsx]
  · by_cases h6 : k = 6
    · subst h6
      obtain ⟨x, y, r, rfl, hx6, _⟩ := okB6 ho rfl
      rw [z04, if_neg (by decide), if_pos (show ((6 : Int) == 6) = true from rfl)]
      simp only [z09, shL, Bool.and_eq_true] at hl
      exact zii hl.1 (by simp only [z09, List.tail_cons, shL, Bool.and_eq_true]; exact hl.2)
    · have : l = [] := okB0 ho h5 h6
      subst this
      rw [z04, if_neg (by simpa using h5), if_neg (by simpa using h6), shB, if_neg (by simpa using h5)]; rfl
theorem zit : ∀ l : List Tm, okL l = true → shL (z09 l) = true
 | [], _ => rfl
 | t :: l, ho => by
  simp only [okL, Bool.and_eq_true] at ho
  rw [z09, shL, zf9 t ho.1, zit l ho.2]; rfl
end
theorem zlj {t : Tm} (h : okB t = true) : z04 (z04 t) = z04 t := zjv _ (z1o t h).1 (zf9 t h)
theorem norm6 {s : List UInt8} {n : Int} {x : Tm} {l : List Tm} (hx : x.k ≠ 5) (h : z2z (x :: l) = true) : z2r (.mk 6 s n (x :: l)) = true := by
 rw [z2r, h, Bool.and_true]
 show (!(6 == 6 && x.k == 5)) = true
 rw [show (x.k == 5) = false by simpa using hx]; rfl
theorem z8m {s : List UInt8} {n : Int} {x : Tm} {l : List Tm} (h : z2r (.mk 6 s n (x :: l)) = true) : x.k ≠ 5 ∧ z2z (x :: l) = true := by
 rw [z2r, Bool.and_eq_true] at h
 refine ⟨fun e => ?_, h.2⟩
 have h1 : (!(6 == 6 && x.k == 5)) = true := h.1
 rw [e] at h1; cases h1
theorem zhp : ∀ a b : List Tm, z2z (a ++ b) = (z2z a && z2z b)
 | [], _ => rfl
 | x :: a, b => by rw [List.cons_append, z2z, z2z, zhp a b, Bool.and_assoc]
theorem zrn {b : Tm} (hb : okB b = true) (hk : b.k = 6) (h : z2r b = true) : z2r (z51 b) = true := by
 obtain ⟨k, s, n, l⟩ := b
 have hk : k = 6 := hk
 subst hk
 obtain ⟨x, a, z, rfl, hx6, _⟩ := z5e hb rfl
 rw [z4s, z43 hx6]
 obtain ⟨h5, hl⟩ := z8m (x := x) (l := a ++ [z]) h
 rw [z2z, zhp] at hl
 simp only [Bool.and_eq_true] at hl
 split
 · exact hl.1
 · exact norm6 h5 (by rw [z2z, hl.1, hl.2.1]; rfl)
mutual
theorem z9d : ∀ t : Tm, okB t = true → z2r t = true → z2r (z04 t) = true
 | .mk k s n l, ho, hn => by
  have hnl : z2z l = true := by rw [z2r, Bool.and_eq_true] at hn; exact hn.2
  have hl := zbp l (z78 ho) hnl
  by_cases h5 : k = 5
  · subst h5
    obtain ⟨x, rfl, hx⟩ := okB5 ho rfl
    have hsx : z2r (z04 x) = true := by simpa [z09, z2z] using hl
    have hox := (z1o x hx).1
    rw [z04, if_pos (show ((5 : Int) == 5) = true from rfl), show hd (z09 [x]) = z04 x from rfl]
    split
    · rename_i hd
      rw [z5w, if_pos hd, zeq]
      exact zrn hox (zrm hd) hsx
    · rw [z2r]; simp [z2z, hsx, z32, Tm.k]
  · by_cases h6 : k = 6
    · subst h6
      obtain ⟨x, y, r, rfl, hx6, hxl⟩ := okB6 ho rfl
      obtain ⟨hx5, _⟩ := z8m hn
      have hx : z04 x = x := by
       obtain ⟨xk, xs, xn, xl⟩ := x
       have h5 : xk ≠ 5 := hx5
       have h6 : xk ≠ 6 := hx6
       rw [z04, if_neg (by simpa using h5), if_neg (by simpa using h6)]
      rw [z04, if_neg (by decide), if_pos (show ((6 : Int) == 6) = true from rfl)]
      rw [z09, hx] at hl ⊢
      show z2r (applyF x (z09 (y :: r))) = true
      rw [z43 hx6, if_neg (by simp [z09])]
      exact norm6 hx5 hl
    · rw [z04, if_neg (by simpa using h5), if_neg (by simpa using h6)]; exact hn
theorem zbp : ∀ l : List Tm, okL l = true → z2z l = true → z2z (z09 l) = true
 | [], _, _ => rfl
 | t :: l, ho, hn => by
  simp only [okL, z2z, Bool.and_eq_true] at ho hn
  rw [z09, z2z, z9d t ho.1 hn.1, zbp l ho.2 hn.2]; rfl
end
end Go.AM

set_option maxRecDepth 100000
open Go Go.Proofs
namespace Go.AM
mutual
def ubB (s : Sto) : Tm → Bool
 | .mk k _ n l => !(k == 4 && (infOf s.V n).bd) && ubL s l
def ubL (s : Sto) : List Tm → Bool
 | [] => true
 | t :: l => ubB s t && ubL s l
end
mutual
def vis : Tm → Nat
 | .mk k _ _ l => 1 + visT (k == 5) l
def visT : Bool → List Tm → Nat
 | _, [] => 0
 | b, t :: l => (if b = true then vis t else 0) + visT true l
end
theorem vis_pos (t : Tm) : 1 ≤ vis t := by cases t; rw [vis]; omega
theorem visT_app (a b : List Tm) : visT true (a ++ b) = visT true a + visT true b := by
 induction a with
 | nil => simp [visT]
 | cons x a ih => rw [List.cons_append, visT, visT, ih]; omega
theorem zjd (l : List Tm) : visT false l = visT true (l.drop 1) := by
 cases l with
 | nil => rfl
 | cons x l => rw [visT]; simp
theorem zt3 (s : Sto) : ∀ a b : List Tm, ubL s (a ++ b) = (ubL s a && ubL s b)
 | [], _ => rfl
 | x :: a, b => by rw [List.cons_append, ubL, ubL, zt3 s a b, Bool.and_assoc]
mutual
theorem zmn (s : Sto) (fr by_ : Int) : ∀ (t : Tm) (d : Int), ubB s (shT fr by_ t d) = ubB s t ∧ vis (shT fr by_ t d) = vis t
 | .mk k str n l, d => by
  by_cases hk : k = 5 ∨ k = 6
  · have := ziq s fr by_ l (d + if (k == 5) = true then 1 else 0)
    rw [zcy d hk, ubB, ubB, vis, vis, this.1, this.2]
    exact ⟨rfl, rfl⟩
  · have h5 : k ≠ 5 := fun e => hk (.inl e)
    have h6 : k ≠ 6 := fun e => hk (.inr e)
    rw [zdf d h5 h6]
    unfold z0g
    split
    · rename_i q
      have h3 : (k == 3) = true := q.1
      have h3 : k = 3 := by simpa using h3
      subst h3
      exact ⟨rfl, rfl⟩
    · exact ⟨rfl, rfl⟩
theorem ziq (s : Sto) (fr by_ : Int) : ∀ (l : List Tm) (d : Int), ubL s (z07 (z0g fr by_) l d) = ubL s l ∧ ∀ b, visT b (z07 (z0g fr by_) l d) = visT b l
 | [], _ => ⟨rfl, fun _ => rfl⟩
 | t :: l, d => by
  have h1 := zmn s fr by_ t d
  have h2 := ziq s fr by_ l d
  have e1 : ubB s (z0d (z0g fr by_) t d) = ubB s t := h1.1
  have e2 : vis (z0d (z0g fr by_) t d) = vis t := h1.2
  refine ⟨by rw [z07, ubL, ubL, e1, h2.1], fun b => by rw [z07, visT, visT, e2, h2.2]⟩
end
theorem ub_rest (s : Sto) {b : Tm} (hb : okB b = true) (hk : b.k = 6) (hn : z2r b = true) (h : ubB s b = true) : ubB s (z51 b) = true ∧ vis (z51 b) ≤ vis b := by
 obtain ⟨k, str, n, l⟩ := b
 have hk : k = 6 := hk
 subst hk
 obtain ⟨x, a, z, rfl, hx6, hx, _⟩ := z5e hb rfl
 obtain ⟨h5, _⟩ := z8m (x := x) (l := a ++ [z]) hn
 rw [z4s, z43 hx6]
 rw [ubB, Bool.and_eq_true] at h
 have hl : ubL s ((x :: a) ++ [z]) = true := h.2
 rw [zt3, Bool.and_eq_true] at hl
 have e : vis (.mk 6 str n (x :: a ++ [z])) = 1 + (visT true a + vis z) := by
  rw [vis, show ((6 : Int) == 5) = false from rfl, zjd]
  show 1 + visT true (a ++ [z]) = _
  rw [visT_app]; simp [visT]
 rw [e]
 have hz := vis_pos z
 split
 · have := hl.1
   rw [ubL, Bool.and_eq_true] at this
   refine ⟨this.1, ?_⟩
   obtain ⟨xk, xs, xn, xl⟩ := x
   have h0 := okB0 hx h5 hx6
   subst h0
   rw [vis]; simp only [visT]; omega
 · refine ⟨by rw [ubB, hl.1]; rfl, ?_⟩
   rw [vis, show ((6 : Int) == 5) = false from rfl, zjd]
   show 1 + visT true a ≤ _
   omega
mutual
theorem znz (s : Sto) : ∀ t : Tm, okB t = true → z2r t = true → ubB s t = true → ubB s (z04 t) = true ∧ vis (z04 t) ≤ vis t
 | .mk k str n l, ho, hn, hu => by
  have hnl : z2z l = true := by rw [z2r, Bool.and_eq_true] at hn; exact hn.2
  have hul : ubL s l = true := by rw [ubB, Bool.and_eq_true] at hu; exact hu.2
  have hl := zhk s l (z78 ho) hnl hul
  by_cases h5 : k = 5
  · subst h5
    obtain ⟨x, rfl, hx⟩ := okB5 ho rfl
    have hsx : ubB s (z04 x) = true := by simpa [z09, ubL] using hl.1
    have hvx : vis (z04 x) ≤ vis x := by have := hl.2; simpa [z09, visT] using this
    have hox := (z1o x hx).1
    have hnx : z2r (z04 x) = true := z9d x hx (by simpa [z2z] using hnl)
    have e : vis (.mk 5 str n [x]) = 1 + vis x := by rw [vis]; simp [visT]
    rw [z04, if_pos (show ((5 : Int) == 5) = true from rfl), show hd (z09 [x]) = z04 x from rfl, e]
    split
    · rename_i hd
      have hr := ub_rest s hox (zrm hd) hnx hsx
      have hs := zmn s 0 (-1) (z51 (z04 x)) 0
      rw [z5w, if_pos hd, hs.1, hs.2]
      exact ⟨hr.1, by omega⟩
    · refine ⟨by rw [ubB, ubL, ubL, hsx]; rfl, ?_⟩
      rw [vis]; simp only [visT, beq_self_eq_true, if_true]; omega
  · by_cases h6 : k = 6
    · subst h6
      obtain ⟨x, y, r, rfl, hx6, hxl⟩ := okB6 ho rfl
      obtain ⟨hx5, _⟩ := z8m hn
      have hx : z04 x = x := by
       obtain ⟨xk, xs, xn, xl⟩ := x
       have h5 : xk ≠ 5 := hx5
       have h6 : xk ≠ 6 := hx6
       rw [z04, if_neg (by simpa using h5), if_neg (by simpa using h6)]
      rw [z04, if_neg (by decide), if_pos (show ((6 : Int) == 6) = true from rfl)]
      rw [z09, hx] at hl ⊢
      show ubB s (applyF x (z09 (y :: r))) = true ∧ vis (applyF x (z09 (y :: r))) ≤ _
      rw [z43 hx6, if_neg (by simp [z09])]
      refine ⟨by rw [ubB, hl.1]; rfl, ?_⟩
      have h2 := hl.2
      rw [visT, visT] at h2
      rw [vis, vis, visT, visT]
      simp only [show ((6 : Int) == 5) = false from rfl, if_true, Bool.false_eq_true, if_false] at h2 ⊢
      omega
    · rw [z04, if_neg (by simpa using h5), if_neg (by simpa using h6)]; exact ⟨hu, Nat.le_refl _⟩
theorem zhk (s : Sto) : ∀ l : List Tm, okL l = true → z2z l = true → ubL s l = true → ubL s (z09 l) = true ∧ visT true (z09 l) ≤ visT true l
 | [], _, _, _ => ⟨rfl, Nat.le_refl _⟩
 | t :: l, ho, hn, hu => by
  simp only [okL, z2z, ubL, Bool.and_eq_true] at ho hn hu
  have h1 := znz s t ho.1 hn.1 hu.1
  have h2 := zhk s l ho.2 hn.2 hu.2
  refine ⟨by rw [z09, ubL, h1.1, h2.1]; rfl, ?_⟩
  rw [z09, visT, visT]; simp only [if_true]; omega
end
theorem step0 {s : Sto} {k n : Int} {str : List UInt8} {l : List Tm} (h : (z0b s (.mk k str n l)).2 = 0) : valB s (.mk k str n l) = false ∧ (k = 6 → valB s (hd l) = false ∧ (hd l).k ≠ 5) := by
 rw [z0b] at h
 have h1 : valB s (.mk k str n l) = false := by
  cases q : valB s (.mk k str n l) with
  | false => rfl
  | true => rw [if_pos q] at h; cases h
 refine ⟨h1, fun h6 => ?_⟩
 subst h6
 rw [if_neg (by rw [h1]; simp), if_neg (show ¬ Tm.k (.mk 6 str n l) ≠ 6 from fun e => e rfl)] at h
 show valB s (hd (Tm.l (.mk 6 str n l))) = false ∧ (hd (Tm.l (.mk 6 str n l))).k ≠ 5
 have h2 : valB s (hd (Tm.l (.mk 6 str n l))) = false := by
  cases q : valB s (hd (Tm.l (.mk 6 str n l))) with
  | false => rfl
  | true => rw [if_pos q] at h; cases h
 refine ⟨h2, fun h5 => ?_⟩
 rw [if_neg (by rw [h2]; simp), if_neg (fun e => e h5)] at h
 simp only at h
 split at h <;> cases h
theorem zc3 {fu : Int → Tm → Tm × Int × Int} (hfu : ∀ g t, 0 ≤ g → 0 ≤ (fu g t).2.2 ∧ (fu g t).2.2 ≤ g) : ∀ (l : List Tm) (sk : Bool) (g : Int), 0 ≤ g →
  (∀ u ∈ (if sk = true then l.drop 1 else l), ∀ g' : Int, 0 ≤ g' → g' ≤ g → (fu g' u).2.1 = 0 → (vis (fu g' u).1 : Int) + (fu g' u).2.2 ≤ g') → (z0h fu sk l g).2.1 = 0 → (visT (!sk) (z0h fu sk l g).1 : Int) + (z0h fu sk l g).2.2 ≤ g
 | [], sk, g, _, _, _ => by simp [z0h, visT]
 | t :: l, true, g, hg, h, h0 => by
  have := zc3 hfu l false g hg h h0
  have e : visT (!true) (z0h fu true (t :: l) g).1 = visT true (z0h fu false l g).1 := by rw [z0h, visT]; simp
  rw [e]; exact this
 | t :: l, false, g, hg, h, h0 => by
  have eK : z0h fu false (t :: l) g = if (fu g t).2.1 ≠ 0 then ([], (fu g t).2) else ((fu g t).1 :: (z0h fu false l (fu g t).2.2).1, (z0h fu false l (fu g t).2.2).2) := rfl
  rw [eK] at h0 ⊢
  by_cases q : (fu g t).2.1 ≠ 0
  · rw [if_pos q] at h0; exact absurd h0 q
  · rw [if_neg q] at h0 ⊢
    have q : (fu g t).2.1 = 0 := by simpa using q
    have h1 := hfu g t hg
    have h2 := h t List.mem_cons_self g hg (Int.le_refl _) q
    have h3 := zc3 hfu l false (fu g t).2.2 h1.1 (fun u hu g' a b c => h u (List.mem_cons_of_mem _ hu) g' a (by omega) c) h0
    have h3 : (visT true (z0h fu false l (fu g t).2.2).1 : Int) + (z0h fu false l (fu g t).2.2).2.2 ≤ (fu g t).2.2 := h3
    show (visT true ((fu g t).1 :: (z0h fu false l (fu g t).2.2).1) : Int) + _ ≤ g
    rw [visT]; simp only [if_true]
    omega
theorem zhh {l : List Tm} : z2z l = true ↔ ∀ u ∈ l, z2r u = true := by
 induction l with
 | nil => exact ⟨(fun _ u hu => nomatch hu), fun _ => rfl⟩
 | cons x l ih =>
  rw [z2z, Bool.and_eq_true, ih]
  exact ⟨fun h u hu => (List.mem_cons.1 hu).elim (fun e => e ▸ h.1) (h.2 u), fun h => ⟨h x List.mem_cons_self, fun u hu => h u (List.mem_cons_of_mem _ hu)⟩⟩
theorem zup {s : Sto} {l : List Tm} : ubL s l = true ↔ ∀ u ∈ l, ubB s u = true := by
 induction l with
 | nil => exact ⟨(fun _ u hu => nomatch hu), fun _ => rfl⟩
 | cons x l ih =>
  rw [ubL, Bool.and_eq_true, ih]
  exact ⟨fun h u hu => (List.mem_cons.1 hu).elim (fun e => e ▸ h.1) (h.2 u), fun h => ⟨h x List.mem_cons_self, fun u hu => h u (List.mem_cons_of_mem _ hu)⟩⟩
theorem zno {s : Sto} (hs : OKS s) : ∀ (D : Nat) (f : Int) (t : Tm), f.toNat ≤ D → 0 ≤ f → validB t = true → Fit f.toNat t → (z08 s D f t).2.1 = 0 →
  z2r (z08 s D f t).1 = true ∧ ubB s (z08 s D f t).1 = true ∧ (vis (z08 s D f t).1 : Int) + (z08 s D f t).2.2 ≤ f
 | 0, f, t, _, _, _, _, h => by rw [z08] at h; cases h
 | D + 1, f, t, hD, h0, hv, hf, h => by
  rw [z08] at h ⊢
  split
  · rename_i q; rw [if_pos q] at h; cases h
  rename_i q
  rw [if_neg q] at h
  have hfit := hf.mono (show (f - 1).toNat ≤ f.toNat by omega)
  have hq := z50 hs hv hfit
  have eh : z5h s (f - 1) t = ((runH s (f - 1).toNat t).1, (runH s (f - 1).toNat t).2.1, f - 1 - ((runH s (f - 1).toNat t).2.2 : Int)) := rfl
  rw [eh] at h ⊢
  generalize runH s (f - 1).toNat t = q at *
  obtain ⟨x, er, u⟩ := q
  simp only at hq h ⊢
  obtain ⟨hu, hq⟩ := hq
  rw [zce] at h ⊢
  split
  · rename_i q2; rw [if_pos q2] at h; exact absurd h q2
  rename_i q2
  rw [if_neg q2] at h
  have he : er = 0 := by simpa using q2
  subst he
  rcases hq with ⟨_, hvx, hfx, hst⟩ | ⟨h80, _⟩
  · obtain ⟨k, str, n, l⟩ := x
    simp only [Tm.l, Tm.k, Tm.s, Tm.n] at h ⊢
    obtain ⟨hs1, hs2⟩ := step0 hst
    have hg0 : 0 ≤ f - 1 - (u : Int) := by omega
    have hkid : ∀ x ∈ l, k = 5 ∨ k = 6 := fun x hx => by
     by_cases h5 : k = 5 ∨ k = 6
     · exact h5
     · rw [not_or] at h5
       have := okB0 (z02 _ hvx) h5.1 h5.2
       rw [this] at hx; cases hx
    have kid : ∀ x ∈ l, ∀ g' : Int, 0 ≤ g' → g' ≤ f - 1 - (u : Int) → (z08 s D g' x).2.1 = 0 → (z2r (z08 s D g' x).1 = true ∧ ubB s (z08 s D g' x).1 = true ∧ (vis (z08 s D g' x).1 : Int) + (z08 s D g' x).2.2 ≤ g') ∧ (z08 s D g' x).1.sz + 42000 * (z08 s D g' x).2.2.toNat ≤ x.sz + 42000 * g'.toNat := fun x hx g' a b c =>
     ⟨zno hs D g' x (by omega) a (z06 hvx (hkid x hx) x hx) ((hfx.kid (show x ∈ Tm.l (.mk k str n l) from hx)).mono (by omega)) c,
      (z3h hs D g' x (by omega) a (z06 hvx (hkid x hx) x hx) ((hfx.kid (show x ∈ Tm.l (.mk k str n l) from hx)).mono (by omega)) c).2⟩
    unfold z7a at h ⊢
    split
    · rename_i q3; rw [if_pos q3] at h; exact absurd h q3
    rename_i q3
    have h9 : (z0h (z08 s D) (k == 6) l (f - 1 - (u : Int))).2.1 = 0 := by simpa using q3
    have sub : ∀ x ∈ (if (k == 6) = true then l.drop 1 else l), x ∈ l := fun x hx => by
     split at hx
     · exact List.mem_of_mem_drop hx
     · exact hx
    have hk := z70 (A := fun _ y => z2r y = true ∧ ubB s y = true) (z22 s D) l (k == 6) (f - 1 - (u : Int)) hg0 (fun x hx g' a b c => ⟨⟨(kid x (sub x hx) g' a b c).1.1, (kid x (sub x hx) g' a b c).1.2.1⟩, (kid x (sub x hx) g' a b c).2⟩) h9
    have hvs := zc3 (z22 s D) l (k == 6) (f - 1 - (u : Int)) hg0 (fun x hx g' a b c => (kid x (sub x hx) g' a b c).1.2.2) h9
    generalize z0h (z08 s D) (k == 6) l (f - 1 - (u : Int)) = r at *
    obtain ⟨us, er2, g2⟩ := r
    simp only at hk hvs ⊢
    obtain ⟨k1, k2, k3, k4⟩ := hk
    have k5 := zba (Q := fun y => z2r y = true ∧ ubB s y = true) (fun _ _ h => h) k4
    have evis : vis (.mk k str n us) = 1 + visT (!(k == 6)) us := by
     rw [vis]
     congr 1
     by_cases h5 : k = 5
     · subst h5; rfl
     · by_cases h6 : k = 6
       · subst h6; rfl
       · have := okB0 (z02 _ hvx) h5 h6
         subst this
         have : us = [] := List.eq_nil_of_length_eq_zero k2
         subst this; rfl
    have all : ∀ y ∈ us, z2r y = true ∧ ubB s y = true := fun y hy => by
     by_cases h6 : (k == 6) = true
     · rcases zsh hy with e | e
       · rw [k3 h6] at e
         have h6' : k = 6 := by simpa using h6
         obtain ⟨x, y', r, rfl, hx6, hxl⟩ := okB6 (z02 _ hvx) h6'
         obtain ⟨v1, v2⟩ := hs2 h6'
         have e : y = x := e
         subst e
         have v1 : valB s y = false := v1
         have v2 : y.k ≠ 5 := v2
         have hoy := z3c hxl (List.mem_cons_self (a := y))
         obtain ⟨yk, ys, yn, yl⟩ := y
         have h0 := okB0 hoy v2 hx6
         subst h0
         refine ⟨?_, ?_⟩
         · rw [z2r, z32]
           have hx6 : yk ≠ 6 := hx6
           simp [Tm.k, hx6, z2z]
         · rw [ubB]
           have v1 : (yk == 4 && (infOf s.V yn).bd) = false := v1
           rw [v1]; rfl
       · exact k5 y (by rw [if_pos h6]; exact e)
     · exact k5 y (by rw [if_neg h6]; exact hy)
    refine ⟨?_, ?_, by show (vis (.mk k str n us) : Int) + g2 ≤ f; rw [evis]; omega⟩
    · rw [z2r, zhh.2 fun y hy => (all y hy).1, Bool.and_true, Bool.not_eq_true', z32]
      by_cases h6 : k = 6
      · subst h6
        have := (hs2 rfl).2
        rw [← k3 rfl] at this
        show ((6 : Int) == 6 && (hd us).k == 5) = false
        simpa using this
      · show (k == 6 && (hd us).k == 5) = false
        simp [h6]
    · rw [ubB, zup.2 fun y hy => (all y hy).2, Bool.and_true]
      have hs1 : (k == 4 && (infOf s.V n).bd) = false := hs1
      show (!(k == 4 && (infOf s.V n).bd)) = true
      rw [hs1]; rfl
  · cases h80
end Go.AM

set_option maxRecDepth 100000
open Go Go.Proofs
namespace Go.AM
def laD : La := .con 0 0 []
def apps (f : La) (l : List La) : La := l.foldl .app f
def mkL (k n : Int) (s : List UInt8) (l : List La) : La :=
 if k = 5 then .lam (l.headD laD) else if k = 6 then apps (l.headD laD) l.tail else if k = 3 then .bv n.toNat else if k = 4 then .var n else .con k n s
mutual
def toL : Tm → La
 | .mk k s n l => mkL k n s (toLs l)
def toLs : List Tm → List La
 | [] => []
 | t :: l => toL t :: toLs l
end
theorem z6o : ∀ l : List Tm, toLs l = l.map toL
 | [] => rfl
 | t :: l => by rw [toLs, z6o l]; rfl
theorem zbd (f : La) (a b : List La) : apps f (a ++ b) = apps (apps f a) b := by simp [apps]
theorem z2x (f a : La) (l : List La) : apps f (a :: l) = apps (.app f a) l := rfl
theorem zvj (l : List Tm) : (toLs l).headD laD = toL (hd l) := by
 cases l with
 | nil => rfl
 | cons t l => rfl
theorem zih (l : List Tm) : (toLs l).tail = toLs l.tail := by cases l <;> rfl
theorem z2e {s : List UInt8} {n : Int} {l : List Tm} : toL (.mk 6 s n l) = apps (toL (hd l)) (toLs l.tail) := by
 rw [toL, mkL, if_neg (by decide), if_pos rfl, zvj, zih]
theorem z1c {s : List UInt8} {n : Int} {l : List Tm} : toL (.mk 5 s n l) = .lam (toL (hd l)) := by
 rw [toL, mkL, if_pos rfl, zvj]
theorem z1s {s : List UInt8} {n : Int} {l : List Tm} : toL (.mk 3 s n l) = .bv n.toNat := by
 rw [toL, mkL, if_neg (by decide), if_neg (by decide), if_pos rfl]
theorem z9r {s : List UInt8} {n : Int} {l : List Tm} : toL (.mk 4 s n l) = .var n := by
 rw [toL, mkL, if_neg (by decide), if_neg (by decide), if_neg (by decide), if_pos rfl]
theorem z5t {k n : Int} {s : List UInt8} {l : List Tm} (h5 : k ≠ 5) (h6 : k ≠ 6) (h3 : k ≠ 3) : toL (.mk k s n l) = .var n ∨ toL (.mk k s n l) = .con k n s := by
 rw [toL, mkL, if_neg h5, if_neg h6, if_neg h3]
 split
 · exact .inl rfl
 · exact .inr rfl
theorem z76 (a b : List Tm) : toLs (a ++ b) = toLs a ++ toLs b := by simp [z6o]
theorem z2h (f : Tm) (l : List Tm) : toL (applyF f l) = apps (toL f) (toLs l) := by
 cases l with
 | nil => rfl
 | cons x a =>
  by_cases h : (f.k == 6) = true ∧ f.l ≠ []
  · rw [show applyF f (x :: a) = .mk 6 [] 0 (f.l ++ (x :: a)) from if_pos h, z2e]
    obtain ⟨k, s, n, l⟩ := f
    have h6 : k = 6 := beq_iff_eq.1 h.1
    subst h6
    obtain ⟨y, b, rfl⟩ : ∃ y b, l = y :: b := by
     cases l with
     | nil => exact absurd rfl h.2
     | cons y b => exact ⟨y, b, rfl⟩
    rw [z2e, ← zbd, ← z76]
    rfl
  · rw [show applyF f (x :: a) = .mk 6 [] 0 (f :: (x :: a)) from if_neg h, z2e]
    rfl
theorem zg4 {t : Tm} {out : List Tm} (hk : t.k = 5 ∨ t.k = 6) : toL (z24 t out) = mkL t.k t.n t.s (toLs out) := by
 unfold z24
 split
 · rename_i q
   have h6 : t.k = 6 := by simpa using q.1
   rw [z2h, mkL, h6, if_neg (by decide), if_pos rfl, zvj, zih]
   rfl
 · rw [toL]
def La.sh : La → Nat → Nat → La
 | .con k n s, _, _ => .con k n s
 | .var x, _, _ => .var x
 | .bv n, j, k => if n < k then .bv n else .bv (n + j)
 | .lam b, j, k => .lam (b.sh j (k + 1))
 | .app f a, j, k => .app (f.sh j k) (a.sh j k)
theorem La.sh_zero : ∀ (t : La) (k : Nat), t.sh 0 k = t
 | .con _ _ _, _ => rfl
 | .var _, _ => rfl
 | .bv n, k => by rw [La.sh]; split <;> rfl
 | .lam b, k => by rw [La.sh, La.sh_zero b]
 | .app f a, k => by rw [La.sh, La.sh_zero f, La.sh_zero a]
theorem La.sh_succ : ∀ (t : La) (j k e : Nat), k ≤ e → e ≤ k + j → (t.sh j k).lift e = t.sh (j + 1) k
 | .con _ _ _, _, _, _, _, _ => rfl
 | .var _, _, _, _, _, _ => rfl
 | .bv n, j, k, e, h1, h2 => by
  rw [La.sh, La.sh]
  split
  · rw [La.lift, if_pos (by omega)]
  · rw [La.lift, if_neg (by omega)]; rfl
 | .lam b, j, k, e, h1, h2 => by rw [La.sh, La.lift, La.sh, La.sh_succ b j (k + 1) (e + 1) (by omega) (by omega)]
 | .app f a, j, k, e, h1, h2 => by rw [La.sh, La.lift, La.sh, La.sh_succ f j k e h1 h2, La.sh_succ a j k e h1 h2]
theorem zu4 (j k : Nat) : ∀ (l : List La) (f : La), (apps f l).sh j k = apps (f.sh j k) (l.map fun a => a.sh j k)
 | [], f => rfl
 | a :: l, f => by rw [z2x, zu4 j k l, List.map_cons, z2x]; rfl
theorem znc (u : La) (k : Nat) : ∀ (l : List La) (f : La), (apps f l).sub u k = apps (f.sub u k) (l.map fun a => a.sub u k)
 | [], f => rfl
 | a :: l, f => by rw [z2x, znc u k l, List.map_cons, z2x]; rfl
theorem zcs (k : Nat) : ∀ (l : List La) (f : La), (apps f l).lift k = apps (f.lift k) (l.map fun a => a.lift k)
 | [], f => rfl
 | a :: l, f => by rw [z2x, zcs k l, List.map_cons, z2x]; rfl
theorem zlz (g : La → La) (g1 : La → La) (hlam : ∀ b, g (.lam b) = .lam (g1 b)) (happ : ∀ f l, g (apps f l) = apps (g f) (l.map g)) (hd0 : g laD = laD) (hd1 : g1 laD = laD) {k n : Int} {s : List UInt8} (hk : k = 5 ∨ k = 6) (l : List La) :
  g (mkL k n s l) = mkL k n s (l.map (if k = 5 then g1 else g)) := by
 rcases hk with rfl | rfl
 · rw [mkL, if_pos rfl, hlam, mkL, if_pos rfl, if_pos rfl]
   cases l with
   | nil => show La.lam (g1 laD) = .lam laD; rw [hd1]
   | cons a l => rfl
 · rw [mkL, if_neg (by decide), if_pos rfl, happ, mkL, if_neg (by decide), if_pos rfl, if_neg (by decide)]
   cases l with
   | nil => show apps (g laD) [] = apps laD []; rw [hd0]
   | cons a l => rfl
theorem z9h {k n : Int} {s : List UInt8} {l : List Tm} (hv : validB (.mk k s n l) = true) (h3 : k = 3) : 0 ≤ n := by
 subst h3
 rw [validB, if_neg (by decide), if_neg (by decide), if_neg (by decide), if_pos (by decide)] at hv
 simp only [Bool.and_eq_true, decide_eq_true_eq] at hv
 exact hv.1.1.1.1
mutual
theorem toL_sh (j : Nat) : ∀ (t : Tm) (d : Nat), validB t = true → toL (shT 0 (j : Int) t (d : Int)) = (toL t).sh j d
 | .mk k s n l, d, hv => by
  unfold shT
  rw [z0d]
  split
  · rename_i hk
    have hk : k = 5 ∨ k = 6 := by simpa using hk
    rw [zg4 (t := .mk k s n l) hk]
    show mkL k n s _ = _
    have e := zlz (fun t => t.sh j d) (fun t => t.sh j (d + 1)) (fun _ => rfl) (fun f l => zu4 j d l f) rfl rfl (n := n) (s := s) hk (toLs l)
    rw [toL, e]
    congr 1
    by_cases h5 : k = 5
    · rw [if_pos h5, if_pos (by simpa using h5)]
      exact zkw j l (d + 1) (z06 hv hk)
    · rw [if_neg h5, if_neg (by simpa using h5), Int.add_zero]
      exact zkw j l d (z06 hv hk)
  · rename_i hk
    have hk : ¬ (k = 5 ∨ k = 6) := by simpa using hk
    rw [not_or] at hk
    have hl : l = [] := okB0 (z02 _ hv) hk.1 hk.2
    subst hl
    unfold z0g
    by_cases h3 : k = 3
    · have hn := z9h hv h3
      subst h3
      rw [z1s, La.sh]
      by_cases q : (d : Int) + 0 ≤ n
      · rw [if_pos (show ((Tm.mk 3 s n []).k == 3) = true ∧ (d : Int) + 0 ≤ (Tm.mk 3 s n []).n from ⟨rfl, q⟩), if_neg (show ¬ n.toNat < d by omega)]
        show toL (.mk 3 s (n + (j : Int)) []) = _
        rw [z1s]
        congr 1; omega
      · rw [if_neg (show ¬ (((Tm.mk 3 s n []).k == 3) = true ∧ (d : Int) + 0 ≤ (Tm.mk 3 s n []).n) from fun e => q e.2), if_pos (show n.toNat < d by omega), z1s]
    · rw [if_neg (show ¬ (((Tm.mk k s n []).k == 3) = true ∧ (d : Int) + 0 ≤ (Tm.mk k s n []).n) from fun e => h3 (beq_iff_eq.1 e.1))]
      rcases z5t (k := k) (n := n) (s := s) (l := []) hk.1 hk.2 h3 with e | e <;> rw [e] <;> rfl
theorem zkw (j : Nat) : ∀ (l : List Tm) (d : Nat), (∀ u ∈ l, validB u = true) → toLs (z07 (z0g 0 (j : Int)) l (d : Int)) = (toLs l).map fun t => t.sh j d
 | [], _, _ => rfl
 | t :: l, d, h => by
  rw [z07, toLs, toLs, List.map_cons, zkw j l d fun u hu => h u (List.mem_cons_of_mem _ hu)]
  congr 1
  exact toL_sh j t d (h t List.mem_cons_self)
end
mutual
theorem toL_su {c : Tm} (hc : validB c = true) : ∀ (t : Tm) (d : Nat), validB t = true → toL (suT 0 c t (d : Int)) = (toL t).sub ((toL c).sh d 0) d
 | .mk k s n l, d, hv => by
  unfold suT
  rw [z0d]
  split
  · rename_i hk
    have hk : k = 5 ∨ k = 6 := by simpa using hk
    rw [zg4 (t := .mk k s n l) hk]
    show mkL k n s _ = _
    have e := zlz (fun t => t.sub ((toL c).sh d 0) d) (fun t => t.sub ((toL c).sh (d + 1) 0) (d + 1)) (fun b => by
     show La.lam (b.sub (((toL c).sh d 0).lift 0) (d + 1)) = _
     rw [La.sh_succ _ d 0 0 (Nat.le_refl _) (by omega)]) (fun f l => znc _ d l f) rfl rfl (n := n) (s := s) hk (toLs l)
    rw [toL, e]
    congr 1
    by_cases h5 : k = 5
    · rw [if_pos h5, if_pos (by simpa using h5)]
      exact zk7 hc l (d + 1) (z06 hv hk)
    · rw [if_neg h5, if_neg (by simpa using h5), Int.add_zero]
      exact zk7 hc l d (z06 hv hk)
  · rename_i hk
    have hk : ¬ (k = 5 ∨ k = 6) := by simpa using hk
    rw [not_or] at hk
    have hl : l = [] := okB0 (z02 _ hv) hk.1 hk.2
    subst hl
    unfold z1r
    by_cases h3 : k = 3
    · have hn := z9h hv h3
      subst h3
      rw [z1s, La.sub, if_pos (show ((Tm.mk 3 s n []).k == 3) = true from rfl)]
      by_cases q : n < (d : Int) + 0
      · rw [if_pos (show (Tm.mk 3 s n []).n < (d : Int) + 0 from q), if_pos (show n.toNat < d by omega), z1s]
      · rw [if_neg (show ¬ (Tm.mk 3 s n []).n < (d : Int) + 0 from q), if_neg (show ¬ n.toNat < d by omega)]
        by_cases q2 : n = (d : Int) + 0
        · rw [if_pos (show ((Tm.mk 3 s n []).n == (d : Int) + 0) = true from beq_iff_eq.2 q2), if_pos (show n.toNat = d by omega)]
          exact toL_sh d c 0 hc
        · rw [if_neg (show ¬ ((Tm.mk 3 s n []).n == (d : Int) + 0) = true from fun e => q2 (beq_iff_eq.1 e)), if_neg (show ¬ n.toNat = d by omega)]
          show toL (.mk 3 s (n - 1) []) = _
          rw [z1s]
          congr 1; omega
    · rw [if_neg (show ¬ ((Tm.mk k s n []).k == 3) = true from fun e => h3 (beq_iff_eq.1 e))]
      rcases z5t (k := k) (n := n) (s := s) (l := []) hk.1 hk.2 h3 with e | e <;> rw [e] <;> rfl
theorem zk7 {c : Tm} (hc : validB c = true) : ∀ (l : List Tm) (d : Nat), (∀ u ∈ l, validB u = true) → toLs (z07 (z1r 0 c) l (d : Int)) = (toLs l).map fun t => t.sub ((toL c).sh d 0) d
 | [], _, _ => rfl
 | t :: l, d, h => by
  rw [z07, toLs, toLs, List.map_cons, zk7 hc l d fun u hu => h u (List.mem_cons_of_mem _ hu)]
  congr 1
  exact toL_su hc t d (h t List.mem_cons_self)
end
def VS (s : Sto) (x : Int) : Option La := if (infOf s.V x).bd = true then some (toL (infOf s.V x).v) else none
theorem Sts.apps {V : Int → Option La} : ∀ (l : List La) {f g : La}, Sts V f g → Sts V (apps f l) (apps g l)
 | [], _, _, h => h
 | a :: l, _, _, h => Sts.apps l (h.appL a)
theorem zvh {s : Sto} {t : Tm} (h : valB s t = true) : Sts (VS s) (toL t) (toL (valS s t)) := by
 simp only [valB, Bool.and_eq_true, beq_iff_eq] at h
 obtain ⟨k, str, n, l⟩ := t
 have h4 : k = 4 := h.1
 subst h4
 rw [z9r]
 refine .del ?_
 have h2 : (infOf s.V n).bd = true := h.2
 unfold VS
 rw [if_pos h2]
 rfl
theorem step_sts {s : Sto} {t : Tm} (hv : validB t = true) (h : (z0b s t).2 = 1) : Sts (VS s) (toL t) (toL (z0b s t).1) := by
 have ok := z02 _ hv
 unfold z0b at h ⊢
 split
 · rename_i q; exact zvh q
 rename_i q
 rw [if_neg q] at h
 split
 · exact .refl _
 rename_i q6
 rw [if_neg q6] at h
 have q6 : t.k = 6 := by simpa using q6
 obtain ⟨k, str, n, l⟩ := t
 have q6 : k = 6 := q6
 obtain ⟨x, y, r, rfl, _, _⟩ := okB6 ok q6
 subst q6
 have vl := z06 hv (.inr rfl)
 rw [z2e]
 show Sts _ (apps (toL x) (toLs (y :: r))) _
 have eh : hd (Tm.l (.mk 6 str n (x :: y :: r))) = x := rfl
 have e1 : (Tm.l (.mk 6 str n (x :: y :: r))).drop 1 = y :: r := rfl
 have e2 : (Tm.l (.mk 6 str n (x :: y :: r))).drop 2 = r := rfl
 rw [eh, e1, e2] at h ⊢
 split
 · rename_i q2
   rw [z2h]
   exact Sts.apps _ (zvh q2)
 rename_i q2
 rw [if_neg q2] at h
 split
 · rename_i q3; rw [if_pos q3] at h; cases h
 rename_i q3
 rw [if_neg q3] at h
 have room : z3v (hd x.l) y = true := by
  by_cases e : z3v (hd x.l) y = true
  · exact e
  · exfalso
    have h : (if z3v (hd x.l) y = true then (1 : Int) else 2) = 1 := h
    rw [if_neg e] at h; cases h
 have vx := vl x List.mem_cons_self
 have vy := vl y (List.mem_cons_of_mem _ List.mem_cons_self)
 obtain ⟨xk, xs, xn, xl⟩ := x
 have q3 : xk = 5 := by have q3 : ¬ xk ≠ 5 := q3; omega
 subst q3
 obtain ⟨b, rfl, _⟩ := okB5 (z02 _ vx) rfl
 have vb := z06 vx (.inl rfl) b List.mem_cons_self
 have eb : hd (Tm.l (.mk 5 xs xn [b])) = b := rfl
 have ey : hd (y :: r) = y := rfl
 rw [eb, ey] at *
 have room : z3v b y = true := room
 show Sts _ _ (toL (applyF (conF b y) r))
 rw [z1c, z2h, conF, if_pos room]
 show Sts _ (apps (.app (.lam (toL b)) (toL y)) (toLs r)) _
 have := toL_su vy b 0 vb
 rw [La.sh_zero] at this
 rw [show ((0 : Nat) : Int) = 0 from rfl] at this
 rw [this]
 exact Sts.apps _ (Sts.beta _ _)
theorem zfp {s : Sto} (hs : OKS s) : ∀ {F : Nat} {t : Tm}, validB t = true → Fit F t → (runH s F t).2.1 = 0 → Sts (VS s) (toL t) (toL (runH s F t).1)
 | 0, t, hv, hf, h => by
  rw [runH] at h ⊢
  split
  · exact .refl _
  · rename_i q; rw [if_neg q] at h; cases h
 | F + 1, t, hv, hf, h => by
  rw [runH] at h ⊢
  split
  · exact .refl _
  · rename_i q
    rw [if_neg q] at h
    split
    · rename_i q2; rw [if_pos q2] at h; cases h
    · rename_i q2
      rw [if_neg q2] at h
      have h1 : (z0b s t).2 = 1 := by rcases zfv s t with r | r | r; · exact absurd r q
                                      · exact r
                                      · exact absurd r q2
      obtain ⟨v, f⟩ := z8c hs hv hf h1
      exact (step_sts hv h1).trans (zfp hs v f h)
theorem zsk {s : Sto} (hs : OKS s) {f : Int} {t : Tm} (hf : validB t = true → Fit f.toNat t) (he : (z1l s f t).2.2 = 0) : Sts (VS s) (toL t) (toL (z1l s f t).1) := by
 unfold z1l at he ⊢
 split at he
 · rename_i hv
   rw [if_pos hv]
   split at he
   · rename_i h1
     rw [if_pos h1]
     exact zfp hs hv (hf hv) h1
   · rename_i h1; exact absurd he h1
 · cases he
theorem zb4 {V : Int → Option La} : ∀ (a b : List La) (f g : La), Sts V f g → All2 (Sts V) a b → Sts V (apps f a) (apps g b)
 | [], [], _, _, h, _ => h
 | x :: a, y :: b, f, g, h, h2 => zb4 a b (.app f x) (.app g y) (h.app h2.1) h2.2
 | [], _ :: _, _, _, _, h2 => h2.elim
 | _ :: _, [], _, _, _, h2 => h2.elim
theorem zb6 {V : Int → Option La} : ∀ {a b : List Tm}, All2 (fun x y => Sts V (toL x) (toL y)) a b → All2 (Sts V) (toLs a) (toLs b)
 | [], [], _ => trivial
 | x :: a, y :: b, h => ⟨h.1, zb6 h.2⟩
 | [], _ :: _, h => h.elim
 | _ :: _, [], h => h.elim
theorem zji {s : Sto} (hs : OKS s) : ∀ (D : Nat) (f : Int) (t : Tm), f.toNat ≤ D → 0 ≤ f → validB t = true → Fit f.toNat t → (z08 s D f t).2.1 = 0 → Sts (VS s) (toL t) (toL (z08 s D f t).1)
 | 0, f, t, _, _, _, _, h => by rw [z08] at h; cases h
 | D + 1, f, t, hD, h0, hv, hf, h => by
  rw [z08] at h ⊢
  split
  · rename_i q; rw [if_pos q] at h; cases h
  rename_i q
  rw [if_neg q] at h
  have hfit := hf.mono (show (f - 1).toNat ≤ f.toNat by omega)
  have hq := z50 hs hv hfit
  have hst := zfp hs hv hfit
  have eh : z5h s (f - 1) t = ((runH s (f - 1).toNat t).1, (runH s (f - 1).toNat t).2.1, f - 1 - ((runH s (f - 1).toNat t).2.2 : Int)) := rfl
  rw [eh] at h ⊢
  generalize runH s (f - 1).toNat t = q at *
  obtain ⟨x, er, u⟩ := q
  simp only at hq hst h ⊢
  obtain ⟨hu, hq⟩ := hq
  rw [zce] at h ⊢
  split
  · rename_i q2; rw [if_pos q2] at h; exact absurd h q2
  rename_i q2
  rw [if_neg q2] at h
  have he : er = 0 := by simpa using q2
  subst he
  rcases hq with ⟨_, hvx, hfx, _⟩ | ⟨h80, _⟩
  · refine (hst rfl).trans ?_
    obtain ⟨k, str, n, l⟩ := x
    simp only [Tm.l, Tm.k, Tm.s, Tm.n] at h ⊢
    have hg0 : 0 ≤ f - 1 - (u : Int) := by omega
    have hkid : ∀ x ∈ l, k = 5 ∨ k = 6 := fun x hx => by
     by_cases h5 : k = 5 ∨ k = 6
     · exact h5
     · rw [not_or] at h5
       have := okB0 (z02 _ hvx) h5.1 h5.2
       rw [this] at hx; cases hx
    have kid : ∀ x ∈ l, ∀ g' : Int, 0 ≤ g' → g' ≤ f - 1 - (u : Int) → (z08 s D g' x).2.1 = 0 → Sts (VS s) (toL x) (toL (z08 s D g' x).1) ∧ (z08 s D g' x).1.sz + 42000 * (z08 s D g' x).2.2.toNat ≤ x.sz + 42000 * g'.toNat := fun x hx g' a b c => by
     have hvk := z06 hvx (hkid x hx) x hx
     have hfk := (hfx.kid (show x ∈ Tm.l (.mk k str n l) from hx)).mono (show g'.toNat ≤ _ by omega)
     exact ⟨zji hs D g' x (by omega) a hvk hfk c, (z3h hs D g' x (by omega) a hvk hfk c).2⟩
    unfold z7a at h ⊢
    split
    · rename_i q3; rw [if_pos q3] at h; exact absurd h q3
    rename_i q3
    have h9 : (z0h (z08 s D) (k == 6) l (f - 1 - (u : Int))).2.1 = 0 := by simpa using q3
    have sub : ∀ x ∈ (if (k == 6) = true then l.drop 1 else l), x ∈ l := fun x hx => by
     split at hx
     · exact List.mem_of_mem_drop hx
     · exact hx
    have hk := z70 (A := fun x y => Sts (VS s) (toL x) (toL y)) (z22 s D) l (k == 6) (f - 1 - (u : Int)) hg0 (fun x hx g' a b c => kid x (sub x hx) g' a b c) h9
    generalize z0h (z08 s D) (k == 6) l (f - 1 - (u : Int)) = r at *
    obtain ⟨us, er2, g2⟩ := r
    simp only at hk ⊢
    obtain ⟨_, k2, k3, k4⟩ := hk
    by_cases h6 : k = 6
    · subst h6
      rw [if_pos (by decide), if_pos (by decide)] at k4
      show Sts _ _ (toL (.mk 6 str n us))
      rw [z2e, z2e, k3 (by decide), ← List.drop_one, ← List.drop_one]
      exact zb4 _ _ _ _ (.refl _) (zb6 k4)
    · have h6' : (k == 6) = false := by simpa using h6
      rw [h6'] at k4
      simp only [Bool.false_eq_true, if_false] at k4
      by_cases h5 : k = 5
      · subst h5
        obtain ⟨b, rfl, _⟩ := okB5 (z02 _ hvx) rfl
        match us, k4 with
        | [c], k4 =>
         show Sts _ _ (toL (.mk 5 str n [c]))
         rw [z1c, z1c]; exact k4.1.lam
      · have : l = [] := okB0 (z02 _ hvx) h5 h6
        subst this
        match us, k4 with
        | [], _ => exact .refl _
  · cases h80
end Go.AM

set_option maxRecDepth 100000
open Go Go.Proofs
namespace Go.AM
theorem c_iodd (t : Tm) (hs : t.sz ≤ B) : AC Tryz.prog 50 [aT t] [] (cb (!validB t)) [] := by
 have hv := z36 t hs
 obtain ⟨k, s, n, l⟩ := t
 refine AC.vc hP sh lv50 (Nat.le_refl _) (by simp) (by simp) (Eq.mpr (v50 k s n (FTs l) ..) ?_)
 exact ⟨_, hv, z05 rfl⟩
theorem zbz (x : Int) : AC Tryz.prog 122 [ci x] [] (aT (.mk 4 [] x [])) [] := by
 refine AC.vc hP sh lv122 (Nat.le_refl _) (by simp) (by simp) (Eq.mpr (v122 ..) ?_)
 exact ⟨leT (l := []) z0r, rfl⟩
theorem zgg (n : Int) : AC Tryz.prog 121 [ci n] [] (aT (.mk 3 [] n [])) [] := by
 refine AC.vc hP sh lv121 (Nat.le_refl _) (by simp) (by simp) (Eq.mpr (v121 ..) ?_)
 exact ⟨leT (l := []) z0r, rfl⟩
def z79 (s : Sto) (lams : Nat) (on : List Tm) : Tm := z3w lams (applyF (.mk 4 [] (s.V.length : Int) []) on)
def z7o (s : Sto) (x lv : Int) (lams : Nat) (on : List Tm) : Sto := bindS (freshS s lv) x (z79 s lams on)
theorem c_hang (s : Sto) (x lv : Int) (lams : Nat) (on : List Tm) (hl : lams ≤ 1000000) (ho : on.length ≤ 1000000) (hV : s.V.length ≤ 1073741824) (hT : s.T.length ≤ 1073741824) (hz : (z79 s lams on).sz ≤ B) (hb : bd M61 (z79 s lams on)) :
  AC Tryz.prog 123 [aS 0, ci x, ci lv, ci (lams : Int), aL on] (oS s) (aT (.mk 4 [] (s.V.length : Int) [])) (oS' (z7o s x lv lams on)) := by
 have h1 := zmf s lv (by omega)
 have h2 := zbz (s.V.length : Int)
 have h3 := z3t (.mk 4 [] (s.V.length : Int) []) on (by simp only [Tm.l, List.length_nil]; omega)
 have h4 := zmx lams (applyF (.mk 4 [] (s.V.length : Int) []) on) (by omega)
 have h5 := zsd (freshS s lv) x (z79 s lams on) hT hz hb
 refine AC.vc hP sh lv123 (by simp) (by simp [isLive]) (by simp [isLive]) (Eq.mpr (v123 ..) ?_)
 exact ⟨(_, freshS s lv), h1, _, h2, _, h3, _, h4, (_, z7o s x lv lams on), h5, .refl _, rfl⟩
end Go.AM

set_option maxRecDepth 100000
open Go Go.Proofs

set_option maxRecDepth 100000
open Go Go.Proofs

set_option maxRecDepth 100000
open Go Go.Proofs

set_option maxRecDepth 100000
open Go Go.Proofs
namespace Go.Proofs.YtdpjhpfjmjhhkaaGreat.base
open Go.ChangeShapes Go.WideShapes Go.ChangeAt Go.RowKit Go.AM
theorem one_le {H : Type} (d : DataW H) : 1 ≤ Rows.uptoBulk d := by
 cases d with
 | lit l => cases l <;> simp [Rows.uptoBulk]
 | _ => simp [Rows.uptoBulk]
theorem bulk {H : Type} : Bulk (H := H) Rows.uptoBulk Rows.uptoBulkAll :=
 ⟨rfl, fun _ _ => rfl, one_le, fun es sp => by simp only [Rows.uptoBulk]; omega, fun l => by simp [Rows.uptoBulk], fun l => by simp [Rows.uptoBulk]⟩
theorem own : ownKnob Tryz.prog.godebug = none := by kernel_rfl
theorem laidOut : laidOutB Tryz.prog = true := by kernel_rfl
theorem tmTy : ∃ f0 f1 f2 f3 : Field, TmTy Tryz.prog 40 f0 f1 f2 f3 :=
 ⟨_, _, _, _, Tryz.underlying40, Tryz.underlying38, Tryz.underlying9, Tryz.underlying3, Tryz.underlying23, rfl, rfl, rfl, rfl, by kernel_rfl, by kernel_rfl, by kernel_rfl, by kernel_rfl, by kernel_rfl⟩
theorem rec3 : Tryz.prog.readableRec 3 = true := by kernel_rfl
theorem lt3 : 3 < Tryz.prog.types.size := of_decide_eq_true (by kernel_rfl)
theorem rec22 : Tryz.prog.readableRec 22 = true := by kernel_rfl
theorem lt22 : 22 < Tryz.prog.types.size := of_decide_eq_true (by kernel_rfl)
theorem rec23 : Tryz.prog.readableRec 23 = true := by kernel_rfl
theorem lt23 : 23 < Tryz.prog.types.size := of_decide_eq_true (by kernel_rfl)
theorem rec40 : Tryz.prog.readableRec 40 = true := by kernel_rfl
theorem lt40 : 40 < Tryz.prog.types.size := of_decide_eq_true (by kernel_rfl)
theorem noGl (g : Nat) (h : Tryz.prog.globalNamed "internal/strconv.uint64pow10" = some g) : False := by
 rw [show Tryz.prog.globalNamed "internal/strconv.uint64pow10" = none by kernel_rfl] at h; cases h
theorem zqj {n : Int} (h : (Lit.int .i64 n).wf = true) : -9223372036854775808 ≤ n ∧ n ≤ 9223372036854775807 := by
 simp only [Lit.wf, IntKind.min, IntKind.max, IntKind.signed, IntKind.bits, Bool.and_eq_true, decide_eq_true_eq, if_true] at h; omega
theorem upto {H : Type} {l : List (DataW H)} (hk : Rows.uptoSmall H l = true) : Rows.uptoBulkAll l ≤ 1048576 := of_decide_eq_true hk
end Go.Proofs.YtdpjhpfjmjhhkaaGreat.base

set_option maxRecDepth 100000
open Go Go.Proofs
namespace Go.AM
abbrev aV6 (l : List IBT) : TV := .c (.a (.fz (.sl false 6 (l.map FIBT))))
theorem zbh {l : List IBT} {i : Nat} (h : i < l.length) : List.getD (l.map FIBT) i [] = FIBT l[i] := by simp [List.getD, h]
def badV (t : Tm) : Bool := z9i t 12 || !near 1000 t
def badW (t : Tm) : Bool := z9i t 24 || !near 1000 t
def zsq (l : List IBT) : Bool := decide ((l.length : Int) > 8) || l.any fun a => badV a.2.2.1
def rowW (m : Int) (l : List Tm) : Bool := decide ((l.length : Int) > m) || l.any badW
abbrev rIB (l : List IBT) (i : Nat) (e : IBT) : Prop := (FV.isSl 6 (.sl false 6 (l.map FIBT)) = true) ∧ ((0 : Int) ≤ (i : Int)) ∧ ((i : Int) < (l.length : Int)) ∧ (FIBT e = FIBT e)
theorem overI_no {l : List IBT} (h : zsq l = false) : l.length ≤ 8 ∧ ∀ v ∈ l, v.2.2.1.sz ≤ 12 ∧ bd 1000 v.2.2.1 := by
 rw [zsq, Bool.or_eq_false_iff] at h
 refine ⟨by have := of_decide_eq_false h.1; omega, fun v hv => ?_⟩
 have := List.any_eq_false.1 h.2 v hv
 simp only [badV, Bool.or_eq_true, Bool.not_eq_true', not_or, Bool.not_eq_true, Bool.not_eq_false] at this
 exact ⟨by have := zna this.1; omega, zlq _ this.2⟩
theorem badW_no {t : Tm} (h : badW t = false) : t.sz ≤ 24 ∧ bd 1000 t := by
 simp only [badW, Bool.or_eq_false_iff, Bool.not_eq_false'] at h
 exact ⟨by have := zna h.1; omega, zlq _ h.2⟩
theorem zsx {m : Int} {l : List Tm} (h : rowW m l = false) : (l.length : Int) ≤ m ∧ ∀ t ∈ l, t.sz ≤ 24 ∧ bd 1000 t := by
 rw [rowW, Bool.or_eq_false_iff] at h
 refine ⟨by have := of_decide_eq_false h.1; omega, fun t ht => badW_no (by simpa using List.any_eq_false.1 h.2 t ht)⟩
def frS (l : List IBT) (u : Sto) : Sto := l.foldl (fun u v => freshS u v.1.1) u
def bnS : List IBT → Int → Sto → Sto
 | [], _, u => u
 | v :: l, i, u => bnS l (i + 1) (if v.2.1 = true then bindS u i v.2.2.1 else u)
def layS (l : List IBT) : Sto := bnS l 0 (frS l ⟨[], []⟩)
theorem zoj (l : List IBT) (hl : l.length ≤ 8) (hb : ∀ v ∈ l, v.2.2.1.bk ≤ B) : ∀ (n i : Nat), i + n = l.length → RPt Tryz.prog 10 0 (cb ((l.drop i).any fun a => badV a.2.2.1)) [] 1 ⟨[(0, aV6 l), (3, ci (i : Int))], [], 0⟩
 | 0, i, hi => by
  refine RPt.vc hP sh lv10 (Eq.mpr (v10_1a ..) ?_)
  refine ⟨rfl, z00 (fun h => ?_) (fun _ => ?_)⟩
  · have h := of_decide_eq_true h
    rw [List.length_map] at h; omega
  · rw [List.drop_eq_nil_of_le (by omega)]; exact z05 rfl
 | n + 1, i, hi => by
  have hlt : i < l.length := by omega
  have hmem := hb _ (List.getElem_mem hlt)
  have hg := zbh hlt
  have next := zoj l hl hb n (i + 1) (by omega)
  rw [List.drop_eq_getElem_cons hlt, List.any_cons]
  refine RPt.vc hP sh lv10 (Eq.mpr (v10_1a ..) ?_)
  refine ⟨rfl, z00 (fun _ => ?_) (fun h => ?_)⟩
  · rw [Int.toNat_natCast, List.length_map, hg, w64 (x := (i : Int) + 1) (by omega) (by omega)]
    generalize l[i] = e at *
    obtain ⟨⟨a1, aI⟩, a2, ⟨⟨ek, es, en, el⟩, eI⟩⟩ := e
    have hmem : Tm.bk (.mk ek es en el) ≤ B := hmem
    have zb := Tm.sz_bk (.mk ek es en el)
    have c1 := zrr (.mk ek es en el) (by omega) 12 (by omega) (by omega)
    have c2 := c_near 1000 (by omega) (by omega) (.mk ek es en el) (by omega)
    have op : rIB l i (⟨a1, aI⟩, a2, ⟨.mk ek es en el, eI⟩) := ⟨rfl, by omega, by omega, rfl⟩
    have eb : badV (.mk ek es en el) = (z9i (.mk ek es en el) 12 || !near 1000 (.mk ek es en el)) := rfl
    show _ ∧ _
    refine ⟨op, _, c1, op, _, c2, z00 (fun e1 => ?_) (fun e1 => z00 (fun e2 => ?_) (fun e2 => ?_))⟩
    · rw [eb, e1]; exact z05 rfl
    · rw [eb, e1, e2]; exact z05 rfl
    · rw [eb, e1, e2, Bool.false_or, Bool.false_or]; exact next
  · have h := of_decide_eq_false h
    rw [List.length_map] at h; omega
theorem c_over16 (l : List IBT) (hb : ∀ v ∈ l, v.2.2.1.bk ≤ B) : AC Tryz.prog 10 [aV6 l] [] (cb (zsq l)) [] := by
 refine AC.vc hP sh lv10 (Nat.le_refl _) (by simp) (by simp) (Eq.mpr (v10 ..) ?_)
 rw [List.length_map]
 refine ⟨rfl, z00 (fun h => ?_) (fun h => ?_)⟩
 · rw [zsq, h]; exact z05 rfl
 · rw [zsq, h, Bool.false_or]
   have h := of_decide_eq_false h
   exact zoj l (by omega) hb l.length 0 (by omega)
theorem zum (l : List Tm) (hl : l.length ≤ 6) (hb : ∀ t ∈ l, t.bk ≤ B) : ∀ (b a : List Tm), a ++ b = l → RPt Tryz.prog 11 0 (cb (b.any badW)) [] 1 ⟨[(0, aL l), (3, ci (a.length : Int))], [], 0⟩
 | [], a, hi => by
  refine RPt.vc hP sh lv11 (Eq.mpr (v11_1a ..) ?_)
  refine ⟨rfl, z00 (fun h => ?_) (fun _ => ?_)⟩
  · have h := of_decide_eq_true h
    rw [z01] at h; rw [List.append_nil] at hi; subst hi; omega
  · exact z05 rfl
 | t :: b, a, hi => by
  have next := zum l hl hb b (a ++ [t]) (by rw [← hi]; simp)
  have hmem := hb t (by rw [← hi]; simp)
  have zb := Tm.sz_bk t
  have hal : a.length < 8 := by have := congrArg List.length hi; simp at this; omega
  have c1 := zrr t (by omega) 24 (by omega) (by omega)
  have c2 := c_near 1000 (by omega) (by omega) t (by omega)
  have eb : badW t = (z9i t 24 || !near 1000 t) := rfl
  rw [List.any_cons]
  refine RPt.vc hP sh lv11 (Eq.mpr (v11_1a ..) ?_)
  rw [show FTs l = FTs (a ++ t :: b) by rw [hi], z65, w64 (x := (a.length : Int) + 1) (by omega) (by omega)]
  have op : (FV.isSl 4 (.sl false 4 (FTs (a ++ t :: b))) = true) ∧ ((0 : Int) ≤ (a.length : Int)) ∧ ((a.length : Int) < (((FTs (a ++ t :: b)).length : Nat) : Int)) ∧ ((rE (List.getD (FTs (a ++ t :: b)) (Int.toNat (a.length : Int)) []) : List FV) = List.getD (FTs (a ++ t :: b)) (Int.toNat (a.length : Int)) []) := ⟨rfl, by omega, ltI' a t b, z4x a t b⟩
  refine ⟨rfl, z00 (fun _ => ⟨op, _, c1, op, _, c2, z00 (fun e1 => ?_) (fun e1 => z00 (fun e2 => ?_) (fun e2 => ?_))⟩) (fun h => absurd (ltI' a t b) (of_decide_eq_false h))⟩
  · rw [eb, e1]; exact z05 rfl
  · rw [eb, e1, e2]; exact z05 rfl
  · rw [eb, e1, e2, Bool.false_or, Bool.false_or]
    rw [hi]
    simpa using next
theorem zt5 (l : List Tm) (hb : ∀ t ∈ l, t.bk ≤ B) : AC Tryz.prog 11 [aL l] [] (cb (rowW 6 l)) [] := by
 refine AC.vc hP sh lv11 (Nat.le_refl _) (by simp) (by simp) (Eq.mpr (v11 ..) ?_)
 rw [z01]
 refine ⟨rfl, z00 (fun h => ?_) (fun h => ?_)⟩
 · rw [rowW, h]; exact z05 rfl
 · rw [rowW, h, Bool.false_or]
   have h := of_decide_eq_false h
   exact zum l (by omega) hb l [] rfl
end Go.AM

set_option maxRecDepth 100000
open Go Go.Proofs
namespace Go.AM
def LV0 (s : Sto) : Prop := ∀ i ∈ s.V, 0 ≤ i.lv
theorem zph (a : Int) : 0 ≤ z0i [a, 0] := by simp only [z0i, List.foldl]; omega
theorem LV0.fresh {s : Sto} (h : LV0 s) (lv : Int) : LV0 (freshS s lv) := fun i hi => by
 rcases List.mem_append.1 hi with hi | hi
 · exact h i hi
 · simp at hi; subst hi; exact zph lv
theorem LV0.bind {s : Sto} (h : LV0 s) (x : Int) (t : Tm) : LV0 (bindS s x t) := fun i hi => by
 by_cases q : z3z s x t = true
 · rw [(z25 q).1] at hi
   rcases List.mem_or_eq_of_mem_set hi with hi | rfl
   · exact h i hi
   · obtain ⟨hl, e⟩ := z1k (z77 q).1 (z77 q).2
     show 0 ≤ (infOf s.V x).lv
     rw [e]; exact h _ (List.getElem_mem hl)
 · rw [(z49 (by simpa using q)).1] at hi; exact h i hi
theorem LV0.of {s : Sto} (h : LV0 s) (x : Int) : 0 ≤ (infOf s.V x).lv := by
 by_cases q : 0 ≤ x ∧ x < (s.V.length : Int)
 · obtain ⟨hl, e⟩ := z1k q.1 q.2
   rw [e]; exact h _ (List.getElem_mem hl)
 · rw [z1n q]; exact Int.le_refl _
abbrev oS2 (a b : Sto) : List AObj := [sto2 1 2 a, .arz 6 (SR a.V), .arz 1 (IR a.T), sto2 4 5 b, .arz 6 (SR b.V), .arz 1 (IR b.T)]
abbrev hpS2 (a b : Sto) : AHeap := [(0, sto2 1 2 a), (1, .arz 6 (SR a.V)), (2, .arz 1 (IR a.T)), (3, sto2 4 5 b), (4, .arz 6 (SR b.V)), (5, .arz 1 (IR b.T))]
abbrev tS2 : TV := .tup [(false, [.a (.ep 0 2 0 0)]), (false, [.a (.ep 3 2 0 0)])]
theorem zhr (l : List IBT) (h1 : ∀ v ∈ l, v.2.2.1.sz ≤ 12 ∧ bd 1000 v.2.2.1) (h2 : ∀ v ∈ l, v.2.2.1.bk ≤ B) (h8 : l.length ≤ 8) :
  ∀ (n i : Nat) (u : Sto), i + n = l.length → OKA u (l.length + i) → RPt Tryz.prog 12 0 tS2 (oS2 (bnS (l.drop i) (i : Int) u) (bnS (l.drop i) (i : Int) u)) 5 ⟨[(0, aV6 l), (4, aS 0), (5, aS 3), (7, ci (i : Int))], hpS2 u u, 6⟩
 | 0, i, u, hi, ha => by
  refine RPt.vc hP sh lv12 (Eq.mpr (v12_5a ..) ?_)
  refine ⟨rfl, z00 (fun h => ?_) (fun _ => ?_)⟩
  · have h := of_decide_eq_true h
    rw [List.length_map] at h; omega
  · rw [List.drop_eq_nil_of_le (by omega)]; exact ⟨.refl _, rfl⟩
 | n + 1, i, u, hi, ha => by
  have hlt : i < l.length := by omega
  have hm := List.getElem_mem hlt
  have hz := h1 _ hm
  have hmk := h2 _ hm
  have hg := zbh hlt
  have next := zhr l h1 h2 h8 n (i + 1)
  rw [List.drop_eq_getElem_cons hlt, bnS]
  refine RPt.vc hP sh lv12 (Eq.mpr (v12_5a ..) ?_)
  refine ⟨rfl, z00 (fun _ => ?_) (fun h => ?_)⟩
  · rw [Int.toNat_natCast, List.length_map, hg, w64 (x := (i : Int) + 1) (by omega) (by omega)]
    generalize l[i] = e at *
    have hT := ha.T
    have zb := Tm.sz_bk e.2.2.1
    have hb1 := zsd u (i : Int) e.2.2.1 (by omega) (by omega) (z5d (by simp only [M61]; omega) _ hz.2)
    have hb2 := c_rbind u (i : Int) e.2.2.1 (by omega) (by omega) (z5d (by simp only [M61]; omega) _ hz.2)
    have hbn := ha.bind (x := (i : Int)) (t := e.2.2.1) (by omega) (z5d (by omega) _ hz.2) hmk
    obtain ⟨⟨a1, aI⟩, a2, ⟨⟨ek, es, en, el⟩, eI⟩⟩ := e
    have op : rIB l i (⟨a1, aI⟩, a2, ⟨.mk ek es en el, eI⟩) := ⟨rfl, by omega, by omega, rfl⟩
    refine ⟨op, z00 (fun h => ?_) (fun h => ?_)⟩
    · have h : a2 = true := h
      rw [if_pos h]
      exact ⟨op, (_, bindS u (i : Int) (.mk ek es en el)), hb1, op, (_, bindS u (i : Int) (.mk ek es en el)), hb2, next _ (by omega) hbn⟩
    · have h : a2 = false := h
      rw [if_neg (by rw [h]; simp)]
      exact next u (by omega) (ha.more (by omega))
  · have h := of_decide_eq_false h
    rw [List.length_map] at h; omega
theorem ziz (l : List IBT) (h1 : ∀ v ∈ l, v.2.2.1.sz ≤ 12 ∧ bd 1000 v.2.2.1) (h2 : ∀ v ∈ l, v.2.2.1.bk ≤ B) (h8 : l.length ≤ 8) :
  ∀ (n i : Nat) (u : Sto), i + n = l.length → OKA u i → RPt Tryz.prog 12 0 tS2 (oS2 (bnS l 0 (frS (l.drop i) u)) (bnS l 0 (frS (l.drop i) u))) 1 ⟨[(0, aV6 l), (4, aS 0), (5, aS 3), (6, ci (i : Int))], hpS2 u u, 6⟩
 | 0, i, u, hi, ha => by
  refine RPt.vc hP sh lv12 (Eq.mpr (v12_1a ..) ?_)
  refine ⟨rfl, z00 (fun h => ?_) (fun _ => ?_)⟩
  · have h := of_decide_eq_true h
    rw [List.length_map] at h; omega
  · rw [List.drop_eq_nil_of_le (by omega)]
    have := zhr l h1 h2 h8 l.length 0 u (by omega) (ha.more (by omega))
    rw [List.drop_zero] at this
    exact this
 | n + 1, i, u, hi, ha => by
  have hlt : i < l.length := by omega
  have hg := zbh hlt
  have next := ziz l h1 h2 h8 n (i + 1)
  rw [List.drop_eq_getElem_cons hlt, frS, List.foldl_cons]
  refine RPt.vc hP sh lv12 (Eq.mpr (v12_1a ..) ?_)
  refine ⟨rfl, z00 (fun _ => ?_) (fun h => ?_)⟩
  · rw [Int.toNat_natCast, List.length_map, hg, w64 (x := (i : Int) + 1) (by omega) (by omega)]
    generalize l[i] = e at *
    have hV := ha.V
    have hf1 := zmf u e.1.1 (by omega)
    have hf2 := c_rfresh u e.1.1 (by omega)
    have hfr := ha.fresh e.1.1
    obtain ⟨⟨a1, aI⟩, a2, ⟨⟨ek, es, en, el⟩, eI⟩⟩ := e
    have op : rIB l i (⟨a1, aI⟩, a2, ⟨.mk ek es en el, eI⟩) := ⟨rfl, by omega, by omega, rfl⟩
    exact ⟨op, (_, freshS u a1), hf1, op, (_, freshS u a1), hf2, next _ (by omega) hfr⟩
  · have h := of_decide_eq_false h
    rw [List.length_map] at h; omega
theorem c_laid16 (l : List IBT) (h1 : ∀ v ∈ l, v.2.2.1.sz ≤ 12 ∧ bd 1000 v.2.2.1) (h2 : ∀ v ∈ l, v.2.2.1.bk ≤ B) (h8 : l.length ≤ 8) : AC Tryz.prog 12 [aV6 l] [] tS2 (oS2 (layS l) (layS l)) := by
 refine AC.vc hP sh lv12 (by simp) (by simp) (by simp [isLive]) (Eq.mpr (v12 ..) ?_)
 have := ziz l h1 h2 h8 l.length 0 ⟨[], []⟩ (by omega) OKA.nil
 rw [List.drop_zero] at this
 exact ⟨(), c_snew, this⟩
end Go.AM

set_option maxRecDepth 100000
open Go Go.Proofs
namespace Go.AM
def z3s (t : Tm) : Bool := (z04 t).k == 3 || (z04 t).k == 1
def z0s (t : Tm) : Tm := if z3s t = true then z04 t else noT
abbrev zgl (t : Tm) (b : Bool) : TV := .tup [(true, cT t), (false, [.a (.fz (.bool b))])]
theorem zqx (t : Tm) (hs : t.sz ≤ SZ) (hb : bd M61 t) : AC Tryz.prog 51 [aT t] [] (if validB t = true then zgl (z0s t) (z3s t) else zgl noT false) [] := by
 have h0 := z36 t (by simp only [SZ, B] at *; omega)
 have h := fun h => zo5 t (z02 t h) (z26 h) hs hb
 have e1 : ∀ b, z3s t = b → z0s t = if b = true then z04 t else noT := fun b h => by rw [z0s, h]
 have e2 : z3s t = ((z04 t).k == 3 || (z04 t).k == 1) := rfl
 obtain ⟨k, s, n, l⟩ := t
 refine AC.vc hP sh lv51 (Nat.le_refl _) (by simp) (by simp) (Eq.mpr (v51 k s n (FTs l) _ _) ?_)
 refine ⟨_, h0, z00 (fun hv => ?_) (fun hv => ⟨_, h (zp9 hv), z00 (fun h3 => ?_) (fun h3 => z00 (fun h1 => ?_) (fun h1 => ?_))⟩)⟩
 · rw [if_neg (by rw [not_t hv]; simp)]; exact ⟨leTB (l := []) z0r, rfl⟩
 · have h3 : ((z04 (.mk k s n l)).k == 3) = true := h3
   have e : z3s (.mk k s n l) = true := by rw [e2, h3]; rfl
   rw [if_pos (zp9 hv), e1 true e, e, if_pos rfl]; exact ⟨.refl _, rfl⟩
 · have h1 : ((z04 (.mk k s n l)).k == 1) = true := h1
   have e : z3s (.mk k s n l) = true := by rw [e2, h1, Bool.or_true]
   rw [if_pos (zp9 hv), e1 true e, e, if_pos rfl]; exact ⟨.refl _, rfl⟩
 · have h3 : ((z04 (.mk k s n l)).k == 3) = false := h3
   have h1 : ((z04 (.mk k s n l)).k == 1) = false := h1
   have e : z3s (.mk k s n l) = false := by rw [e2, h1, h3]; rfl
   rw [if_pos (zp9 hv), e1 false e, e]; exact ⟨leTB (l := []) z0r, rfl⟩
end Go.AM

set_option maxRecDepth 100000
open Go Go.Proofs
namespace Go.AM
def ixF (p : Tm → Bool) : List Tm → Nat → Int
 | [], _ => -1
 | t :: l, i => if p t = true then (i : Int) else ixF p l (i + 1)
theorem zfi (p : Tm → Bool) : ∀ (l : List Tm) (i : Nat), decide (ixF p l i ≥ 0) = l.any p
 | [], _ => rfl
 | t :: l, i => by
  rw [ixF, List.any_cons]
  split
  · rename_i h; rw [h]; simp
  · rename_i h; rw [zfi p l, show p t = false by simpa using h, Bool.false_or]
theorem ztr (p : Tm → Bool) : ∀ (l : List Tm) (i : Nat), -1 ≤ ixF p l i ∧ ixF p l i < (i : Int) + (l.length : Int) + 1
 | [], i => by simp only [ixF]; omega
 | t :: l, i => by
  have := ztr p l (i + 1)
  rw [ixF]
  split
  · simp only [List.length_cons]; omega
  · simp only [List.length_cons]; omega
theorem l_ixiodd (p : Tm → Bool) (b : List Tm) : ∀ a : List Tm, (a ++ b).length ≤ B → (∀ u ∈ b, AC Tryz.prog 50 [aT u] [] (cb (p u)) []) → RPt Tryz.prog 83 0 (ci (ixF p b a.length)) [] 1 ⟨[(0, aL (a ++ b)), (1, .c (.fn (.func 50) [] [])), (7, ci ((a ++ b).length : Int)), (8, ci (a.length : Int))], [], 0⟩ := by
 induction b with
 | nil =>
  intro a hs _
  refine RPt.vc hP sh lv83 (Eq.mpr (ze2 ..) ?_)
  exact z00 (fun h => absurd (of_decide_eq_true h) (by simp)) (fun _ => z31 rfl)
 | cons t b ihb =>
  intro a hs ih
  have h3 := ltI' a t b
  have h1 := ih t List.mem_cons_self
  have h2 := ihb (a ++ [t]) (by simpa using hs) (fun u hu => ih u (List.mem_cons_of_mem _ hu))
  rw [ap, nx, show (a ++ [t]).length = a.length + 1 by simp] at h2
  rw [ixF]
  simp only [List.length_append, List.length_cons, B] at hs
  have h4 : (a.length : Int) < ((a ++ t :: b).length : Int) := by simp only [List.length_append, List.length_cons]; omega
  refine RPt.vc hP sh lv83 (Eq.mpr (ze2 ..) ?_)
  rw [w64 (by omega) (by omega)]
  refine z00 (fun _ => ⟨⟨rfl, by omega, h3, z4x ..⟩, p t, by rw [z65]; exact h1, z00 (fun h => ?_) (fun h => ?_)⟩) (fun h => absurd h4 (of_decide_eq_false h))
  · rw [if_pos h]; exact z31 rfl
  · rw [if_neg (by rw [h]; simp)]; exact h2
theorem c_ixiodd (p : Tm → Bool) (l : List Tm) (hl : l.length ≤ B) (h : ∀ u ∈ l, AC Tryz.prog 50 [aT u] [] (cb (p u)) []) : AC Tryz.prog 83 [aL l, .c (.fn (.func 50) [] [])] [] (ci (ixF p l 0)) [] := by
 have := l_ixiodd p l [] hl h
 refine AC.vc hP sh lv83 (Nat.le_refl _) (by simp) (by simp) (Eq.mpr (v83_F50 ..) ?_)
 rw [z01]
 exact ⟨rfl, this⟩
theorem zsw (p : Tm → Bool) (l : List Tm) (hl : l.length ≤ B) (h : ∀ u ∈ l, AC Tryz.prog 50 [aT u] [] (cb (p u)) []) : AC Tryz.prog 49 [aL l, .c (.fn (.func 50) [] [])] [] (cb (l.any p)) [] := by
 refine AC.vc hP sh lv49 (Nat.le_refl _) (by simp) (by simp) (Eq.mpr (v49_F50 ..) ?_)
 exact ⟨_, c_ixiodd p l hl h, z05 (zfi p l 0)⟩
theorem zky (p : Tm → Bool) (b : List Tm) : ∀ a : List Tm, (a ++ b).length ≤ B → (∀ u ∈ b, AC Tryz.prog 61 [aT u] [] (cb (p u)) []) → RPt Tryz.prog 83 0 (ci (ixF p b a.length)) [] 1 ⟨[(0, aL (a ++ b)), (1, .c (.fn (.func 61) [] [])), (7, ci ((a ++ b).length : Int)), (8, ci (a.length : Int))], [], 0⟩ := by
 induction b with
 | nil =>
  intro a hs _
  refine RPt.vc hP sh lv83 (Eq.mpr (ze8 ..) ?_)
  exact z00 (fun h => absurd (of_decide_eq_true h) (by simp)) (fun _ => z31 rfl)
 | cons t b ihb =>
  intro a hs ih
  have h3 := ltI' a t b
  have h1 := ih t List.mem_cons_self
  have h2 := ihb (a ++ [t]) (by simpa using hs) (fun u hu => ih u (List.mem_cons_of_mem _ hu))
  rw [ap, nx, show (a ++ [t]).length = a.length + 1 by simp] at h2
  rw [ixF]
  simp only [List.length_append, List.length_cons, B] at hs
  have h4 : (a.length : Int) < ((a ++ t :: b).length : Int) := by simp only [List.length_append, List.length_cons]; omega
  refine RPt.vc hP sh lv83 (Eq.mpr (ze8 ..) ?_)
  rw [w64 (by omega) (by omega)]
  refine z00 (fun _ => ⟨⟨rfl, by omega, h3, z4x ..⟩, p t, by rw [z65]; exact h1, z00 (fun h => ?_) (fun h => ?_)⟩) (fun h => absurd h4 (of_decide_eq_false h))
  · rw [if_pos h]; exact z31 rfl
  · rw [if_neg (by rw [h]; simp)]; exact h2
theorem zl3 (p : Tm → Bool) (l : List Tm) (hl : l.length ≤ B) (h : ∀ u ∈ l, AC Tryz.prog 61 [aT u] [] (cb (p u)) []) : AC Tryz.prog 83 [aL l, .c (.fn (.func 61) [] [])] [] (ci (ixF p l 0)) [] := by
 have := zky p l [] hl h
 refine AC.vc hP sh lv83 (Nat.le_refl _) (by simp) (by simp) (Eq.mpr (v83_F61 ..) ?_)
 rw [z01]
 exact ⟨rfl, this⟩
theorem zhx (p : Tm → Bool) (l : List Tm) (hl : l.length ≤ B) (h : ∀ u ∈ l, AC Tryz.prog 61 [aT u] [] (cb (p u)) []) : AC Tryz.prog 49 [aL l, .c (.fn (.func 61) [] [])] [] (cb (l.any p)) [] := by
 refine AC.vc hP sh lv49 (Nat.le_refl _) (by simp) (by simp) (Eq.mpr (v49_F61 ..) ?_)
 exact ⟨_, zl3 p l hl h, z05 (zfi p l 0)⟩
abbrev obT (t : Tm) : AObj := .arr 4 [cT t]
theorem zv4 (p : Tm → Bool) (o : Tm) (b : List Tm) : ∀ a : List Tm, (a ++ b).length ≤ B → (∀ u ∈ b, AC Tryz.prog 52 [aT u, .c (.a (.ep 0 4 0 0))] [obT o] (cb (p u)) [obT o]) →
  RPt Tryz.prog 83 1 (ci (ixF p b a.length)) [obT o] 1 ⟨[(0, aL (a ++ b)), (1, .c (.fn (.func 52) [] [(false, [.ep 0 4 0 0])])), (7, ci ((a ++ b).length : Int)), (8, ci (a.length : Int))], [(0, obT o)], 1⟩ := by
 induction b with
 | nil =>
  intro a hs _
  obtain ⟨ok, os, on, ol⟩ := o
  refine RPt.vc hP sh lv83 (Eq.mpr (ze0 ..) ?_)
  exact z00 (fun h => absurd (of_decide_eq_true h) (by simp)) (fun _ => ⟨.refl _, rfl⟩)
 | cons t b ihb =>
  intro a hs ih
  have h3 := ltI' a t b
  have h1 := ih t List.mem_cons_self
  have h2 := ihb (a ++ [t]) (by simpa using hs) (fun u hu => ih u (List.mem_cons_of_mem _ hu))
  rw [ap, nx, show (a ++ [t]).length = a.length + 1 by simp] at h2
  rw [ixF]
  simp only [List.length_append, List.length_cons, B] at hs
  have h4 : (a.length : Int) < ((a ++ t :: b).length : Int) := by simp only [List.length_append, List.length_cons]; omega
  obtain ⟨ok, os, on, ol⟩ := o
  refine RPt.vc hP sh lv83 (Eq.mpr (ze0 ..) ?_)
  rw [w64 (by omega) (by omega)]
  refine z00 (fun _ => ⟨⟨rfl, by omega, h3, z4x ..⟩, p t, by rw [z65]; exact h1, z00 (fun h => ?_) (fun h => ?_)⟩) (fun h => absurd h4 (of_decide_eq_false h))
  · rw [if_pos h]; exact ⟨.refl _, rfl⟩
  · rw [if_neg (by rw [h]; simp)]; exact h2
theorem zv2 (p : Tm → Bool) (o : Tm) (l : List Tm) (hl : l.length ≤ B) (h : ∀ u ∈ l, AC Tryz.prog 52 [aT u, .c (.a (.ep 0 4 0 0))] [obT o] (cb (p u)) [obT o]) : AC Tryz.prog 83 [aL l, .c (.fn (.func 52) [] [(false, [.ep 0 4 0 0])])] [obT o] (ci (ixF p l 0)) [obT o] := by
 have := zv4 p o l [] hl h
 obtain ⟨ok, os, on, ol⟩ := o
 refine AC.vc hP sh lv83 (Nat.le_refl _) (by simp [isLive]) (by simp) (Eq.mpr (v83_F52 ..) ?_)
 rw [z01]
 exact ⟨rfl, this⟩
theorem zpf (p : Tm → Bool) (o : Tm) (b : List Tm) : ∀ a : List Tm, (a ++ b).length ≤ B → (∀ u ∈ b, AC Tryz.prog 124 [aT u, .c (.a (.ep 0 4 0 0))] [obT o] (cb (p u)) [obT o]) →
  RPt Tryz.prog 83 1 (ci (ixF p b a.length)) [obT o] 1 ⟨[(0, aL (a ++ b)), (1, .c (.fn (.func 124) [] [(false, [.ep 0 4 0 0])])), (7, ci ((a ++ b).length : Int)), (8, ci (a.length : Int))], [(0, obT o)], 1⟩ := by
 induction b with
 | nil =>
  intro a hs _
  obtain ⟨ok, os, on, ol⟩ := o
  refine RPt.vc hP sh lv83 (Eq.mpr (zd7 ..) ?_)
  exact z00 (fun h => absurd (of_decide_eq_true h) (by simp)) (fun _ => ⟨.refl _, rfl⟩)
 | cons t b ihb =>
  intro a hs ih
  have h3 := ltI' a t b
  have h1 := ih t List.mem_cons_self
  have h2 := ihb (a ++ [t]) (by simpa using hs) (fun u hu => ih u (List.mem_cons_of_mem _ hu))
  rw [ap, nx, show (a ++ [t]).length = a.length + 1 by simp] at h2
  rw [ixF]
  simp only [List.length_append, List.length_cons, B] at hs
  have h4 : (a.length : Int) < ((a ++ t :: b).length : Int) := by simp only [List.length_append, List.length_cons]; omega
  obtain ⟨ok, os, on, ol⟩ := o
  refine RPt.vc hP sh lv83 (Eq.mpr (zd7 ..) ?_)
  rw [w64 (by omega) (by omega)]
  refine z00 (fun _ => ⟨⟨rfl, by omega, h3, z4x ..⟩, p t, by rw [z65]; exact h1, z00 (fun h => ?_) (fun h => ?_)⟩) (fun h => absurd h4 (of_decide_eq_false h))
  · rw [if_pos h]; exact ⟨.refl _, rfl⟩
  · rw [if_neg (by rw [h]; simp)]; exact h2
theorem zqe (p : Tm → Bool) (o : Tm) (l : List Tm) (hl : l.length ≤ B) (h : ∀ u ∈ l, AC Tryz.prog 124 [aT u, .c (.a (.ep 0 4 0 0))] [obT o] (cb (p u)) [obT o]) : AC Tryz.prog 83 [aL l, .c (.fn (.func 124) [] [(false, [.ep 0 4 0 0])])] [obT o] (ci (ixF p l 0)) [obT o] := by
 have := zpf p o l [] hl h
 obtain ⟨ok, os, on, ol⟩ := o
 refine AC.vc hP sh lv83 (Nat.le_refl _) (by simp [isLive]) (by simp) (Eq.mpr (v83_F124 ..) ?_)
 rw [z01]
 exact ⟨rfl, this⟩
def lfB (a b : Tm) : Bool := a.k == b.k && a.n == b.n
theorem zuy (a b : Tm) : AC Tryz.prog 53 [aT a, aT b] [] (cb (lfB a b)) [] := by
 obtain ⟨k, s, n, l⟩ := a
 obtain ⟨k', s', n', l'⟩ := b
 refine AC.vc hP sh lv53 (Nat.le_refl _) (by simp) (by simp) (Eq.mpr (v53 k s n (FTs l) k' s' n' (FTs l') _ _) ?_)
 have e : lfB (.mk k s n l) (.mk k' s' n' l') = (k == k' && n == n') := rfl
 refine z00 (fun h => ?_) (fun h => ?_)
 · have h : (k == k') = true := h
   rw [e, h, Bool.true_and]; exact ⟨.refl _, rfl⟩
 · have h : (k == k') = false := h
   rw [e, h, Bool.false_and]; exact ⟨.refl _, rfl⟩
theorem c_args1 (a o : Tm) : AC Tryz.prog 52 [aT a, .c (.a (.ep 0 4 0 0))] [obT o] (cb (lfB a o)) [obT o] := by
 have h := zuy a o
 obtain ⟨k, s, n, l⟩ := a
 obtain ⟨k', s', n', l'⟩ := o
 refine AC.vc hP sh lv52 (Nat.le_refl _) (by simp [isLive]) (by simp) (Eq.mpr (v52 k s n (FTs l) k' s' n' (FTs l') _ _) ?_)
 exact ⟨_, h, .refl _, rfl⟩
theorem c_image1 (a o : Tm) : AC Tryz.prog 124 [aT a, .c (.a (.ep 0 4 0 0))] [obT o] (cb (lfB a o)) [obT o] := by
 have h := zuy a o
 obtain ⟨k, s, n, l⟩ := a
 obtain ⟨k', s', n', l'⟩ := o
 refine AC.vc hP sh lv124 (Nat.le_refl _) (by simp [isLive]) (by simp) (Eq.mpr (v124 k s n (FTs l) k' s' n' (FTs l') _ _) ?_)
 exact ⟨_, h, .refl _, rfl⟩
theorem l_ixO (o : Tm) (b : List Tm) : ∀ a : List Tm, (a ++ b).length ≤ B →
  RPt Tryz.prog 83 2 (ci (ixF (fun u => lfB u o) b a.length)) [.arz 4 (FTs (a ++ b)), obT o] 1 ⟨[(0, .c (.a (.osl 0 4 0 (a ++ b).length))), (1, .c (.fn (.func 52) [] [(false, [.ep 1 4 0 0])])), (7, ci ((a ++ b).length : Int)), (8, ci (a.length : Int))], [(0, .arz 4 (FTs (a ++ b))), (1, obT o)], 2⟩ := by
 induction b with
 | nil =>
  intro a hs
  obtain ⟨ok, os, on, ol⟩ := o
  refine RPt.vc hP sh lv83 (Eq.mpr (z8z ..) ?_)
  exact z00 (fun h => absurd (of_decide_eq_true h) (by simp)) (fun _ => ⟨.refl _, rfl⟩)
 | cons t b ihb =>
  intro a hs
  have h3 := ltI' a t b
  have h1 := c_args1 t o
  have h2 := ihb (a ++ [t]) (by simpa using hs)
  rw [ap, nx, show (a ++ [t]).length = a.length + 1 by simp] at h2
  rw [ixF]
  simp only [List.length_append, List.length_cons, B] at hs
  have h4 : (a.length : Int) < ((a ++ t :: b).length : Int) := by simp only [List.length_append, List.length_cons]; omega
  have em := z4x a t b
  obtain ⟨ok, os, on, ol⟩ := o
  refine RPt.vc hP sh lv83 (Eq.mpr (z8z ..) ?_)
  rw [w64 (by omega) (by omega)]
  refine z00 (fun _ => ⟨by simp only [List.length_append, List.length_cons]; omega, ⟨by rw [Nat.zero_add]; omega, by rw [Nat.zero_add, em, midI, List.drop_zero, List.take_of_length_le (by rw [z2k]; exact Nat.le_refl _)], rfl⟩, lfB t (.mk ok os on ol), by rw [Nat.zero_add, z65]; exact h1, z00 (fun h => ?_) (fun h => ?_)⟩) (fun h => absurd h4 (of_decide_eq_false h))
  · rw [if_pos h]; exact ⟨.refl _, rfl⟩
  · rw [if_neg (by rw [h]; simp)]; exact h2
theorem c_ixO (o : Tm) (l : List Tm) (hl : l.length ≤ B) : AC Tryz.prog 83 [.c (.a (.osl 0 4 0 l.length)), .c (.fn (.func 52) [] [(false, [.ep 1 4 0 0])])] [.arz 4 (FTs l), obT o] (ci (ixF (fun u => lfB u o) l 0)) [.arz 4 (FTs l), obT o] := by
 have := l_ixO o l [] hl
 obtain ⟨ok, os, on, ol⟩ := o
 refine AC.vc hP sh lv83 (Nat.le_refl _) (by simp [isLive]) (by simp) (Eq.mpr (zqf ..) ?_)
 exact this
theorem c_anyO (o : Tm) (l : List Tm) (hl : l.length ≤ B) : AC Tryz.prog 49 [.c (.a (.osl 0 4 0 l.length)), .c (.fn (.func 52) [] [(false, [.ep 1 4 0 0])])] [.arz 4 (FTs l), obT o] (cb (l.any fun u => lfB u o)) [.arz 4 (FTs l), obT o] := by
 have h := c_ixO o l hl
 have e := zfi (fun u => lfB u o) l 0
 obtain ⟨ok, os, on, ol⟩ := o
 refine AC.vc hP sh lv49 (Nat.le_refl _) (by simp [isLive]) (by simp) (Eq.mpr (zp7 ..) ?_)
 exact ⟨_, h, by rw [← e]; exact .refl _, rfl⟩
theorem c_anyN (o : Tm) : AC Tryz.prog 49 [.c (.a (.fz .nils)), .c (.fn (.func 52) [] [(false, [.ep 0 4 0 0])])] [obT o] (cb false) [obT o] := by
 have h := zv2 (fun u => lfB u o) o [] (by simp only [List.length_nil, B]; omega) (fun u hu => by cases hu)
 have hh : AC Tryz.prog 49 [aL [], .c (.fn (.func 52) [] [(false, [.ep 0 4 0 0])])] [obT o] (cb false) [obT o] := by
  obtain ⟨ok, os, on, ol⟩ := o
  refine AC.vc hP sh lv49 (Nat.le_refl _) (by simp [isLive]) (by simp) (Eq.mpr (v49_F52 ..) ?_)
  exact ⟨_, h, .refl _, rfl⟩
 exact hh.args ⟨.c _ _ (.a _ _ (.fz _ _ z0r)), .refl _, trivial⟩
end Go.AM

set_option maxRecDepth 100000
open Go Go.Proofs
namespace Go.AM
def z66 (lv : Int) (out : List Tm) (u : Tm) : Bool := !z3s u || ((z0s u).k == 1 && decide ((z0s u).n ≤ lv)) || out.any fun v => lfB v (z0s u)
def z2i (s : Sto) (lv : Int) : List Tm → List Tm → Int → List Tm × Int × Int
 | out, [], f => (out, f, 0)
 | out, t :: l, f => if (FullV s f t).2.2 ≠ 0 then ([], 0, (FullV s f t).2.2) else if z66 lv out (FullV s f t).1 = true then ([], 0, 171) else z2i s lv (out ++ [z0s (FullV s f t).1]) l (FullV s f t).2.1
def z0o (s : Sto) (x : Int) (l : List Tm) (f : Int) : List Tm × Int × Int := if (!inB s.V x || l.any fun t => !validB t) = true then ([], 0, 1) else z2i s (infOf s.V x).lv [] l f
abbrev aAr (z : List Tm × Int × Int) : TV := .tup [(false, [.a (.fz (.sl false 4 (FTs z.1)))]), (false, [.a (.fz (.int .i64 z.2.1))]), (false, [.a (.fz (.int .i64 z.2.2))])]
theorem leAr {x : FV} {a b : Int} {l : List Tm} (h : FV.Le x (.sl false 4 (FTs l))) : TV.Le (.tup [(false, [.a (.fz x)]), (false, [.a (.fz (.int .i64 a))]), (false, [.a (.fz (.int .i64 b))])]) (aAr (l, a, b)) := zt0 ⟨⟨rfl, .a _ _ (.fz _ _ h), trivial⟩, lwR _, lwR _, trivial⟩
theorem z3g {s : Sto} (hs : OKS s) {f : Int} {t : Tm} (hf : validB t = true → Fit f.toNat t) (he : (FullV s f t).2.2 = 0) : validB t = true ∧ validB (FullV s f t).1 = true ∧ bd M61 (FullV s f t).1 ∧ (FullV s f t).1.sz ≤ SZ ∧ (FullV s f t).1.sz + 42000 * (FullV s f t).2.1.toNat ≤ t.sz + 42000 * f.toNat ∧ 0 ≤ (FullV s f t).2.1 ∧ (FullV s f t).2.1 ≤ f := by
 unfold FullV at he ⊢
 split at he
 · rename_i hv
   rw [if_pos hv]
   have h0 : 0 ≤ f ∨ (z08 s f.toNat f t).2.1 ≠ 0 := by
    rcases Int.le_total 0 f with q | q
    · exact .inl q
    · right; rw [zha s _ t q]; simp
   split at he
   · rename_i h1
     rw [if_pos h1]
     have h0 : 0 ≤ f := h0.resolve_right (fun h => h h1)
     obtain ⟨⟨a, b⟩, c⟩ := z3h hs f.toNat f t (Nat.le_refl _) h0 hv (hf hv) h1
     have hl := z22 s f.toNat f t h0
     have so := z1o _ (z02 _ a)
     have hsz := (hf hv).2.1
     exact ⟨hv, by rw [z1p, so.1, so.2.1 (z26 a)]; rfl, so.2.2.2 _ (by simp only [M61]; omega) b, by have := so.2.2.1; simp only; omega, by have := so.2.2.1; simp only; omega, hl⟩
   · rename_i h1; exact absurd he h1
 · cases he
abbrev oInf (i : Inf) : AObj := .arr 6 [[.a (.fz (.int .i64 i.lv)), .a (.fz (.bool i.bd)), .a (.fz (.int .i64 i.v.k)), .a (.fz (.str i.v.s)), .a (.fz (.int .i64 i.v.n)), .a (.fz (.sl false 4 (FTs i.v.l)))]]
theorem zry (s : Sto) (hs : OKS s) (i : Inf) (l0 : List Tm) (hl0 : l0.length ≤ 1000000000) : ∀ (b pre out : List Tm) (f : Int), out.length = pre.length → out ≠ [] → l0 = pre ++ b → 0 - 9223372036854775808 ≤ f → (∀ t ∈ b, t.sz ≤ B ∧ (validB t = true → Fit f.toNat t)) →
  RPt Tryz.prog 13 3 (aAr (z2i s i.lv out b f)) (oS s) 1
   ⟨[(0, aS 0), (3, ci f), (11, .c (.a (.ep 3 6 0 0))), (13, .c (.a (.osl 4 4 0 out.length))), (35, aL l0), (36, ci (l0.length : Int)), (37, ci (pre.length : Int))],
    [(0, sto2 1 2 s), (1, .arz 6 (SR s.V)), (2, .arz 1 (IR s.T)), (3, oInf i), (4, .arz 4 (FTs out))], 5⟩
 | [], pre, out, f, ho, hne, hl, h0, _ => by
  subst hl
  obtain ⟨ilv, ibd, ⟨ik, is, iN, il⟩⟩ := i
  refine RPt.vc hP sh lv13 (Eq.mpr (v13_1b f out.length (FTs (pre ++ [])) ((pre ++ []).length : Nat) (pre.length : Nat) ..) ?_)
  refine z00 (fun h => absurd (of_decide_eq_true h) (by rw [List.append_nil]; omega)) (fun _ => ⟨⟨rfl, by rw [z01]; omega⟩, ?_, rfl⟩)
  rw [List.drop_zero, List.take_of_length_le (by rw [z01]; omega)]
  exact leAr leSl
 | t :: b, pre, out, f, ho, hne, hl, h0, hb => by
  subst hl
  obtain ⟨hz, hfit⟩ := hb t List.mem_cons_self
  have h3 := ltI' pre t b
  have em := z4x pre t b
  have hF := zc6 s hs f t h0 hz hfit
  have okF := z3g hs hfit
  have eA : z2i s i.lv out (t :: b) f = if (FullV s f t).2.2 ≠ 0 then ([], 0, (FullV s f t).2.2) else if z66 i.lv out (FullV s f t).1 = true then ([], 0, 171) else z2i s i.lv (out ++ [z0s (FullV s f t).1]) b (FullV s f t).2.1 := rfl
  have next := fun g w h1 h2 => zry s hs i (pre ++ t :: b) hl0 b (pre ++ [t]) (out ++ [w]) g (by simp; omega) (by simp) (by simp) h1 h2
  simp only [List.length_append, List.length_cons] at hl0
  rw [eA]
  generalize FullV s f t = z at *
  obtain ⟨u, g, e⟩ := z
  simp only at okF hF ⊢
  have h4 : ((pre.length : Nat) : Int) < (((pre ++ t :: b).length : Nat) : Int) := by simp only [List.length_append, List.length_cons]; omega
  obtain ⟨ilv, ibd, ⟨ik, is, iN, il⟩⟩ := i
  refine RPt.vc hP sh lv13 (Eq.mpr (v13_1b f out.length (FTs (pre ++ t :: b)) ((pre ++ t :: b).length : Nat) (pre.length : Nat) ..) ?_)
  rw [z65, w64 (x := ((pre.length : Nat) : Int) + 1) (by omega) (by omega)]
  refine z00 (fun _ => ⟨⟨rfl, by omega, h3, em⟩, (u, g, e), hF, z00 (fun he => ?_) (fun he => ?_)⟩) (fun h => absurd h4 (of_decide_eq_false h))
  · have he : e ≠ 0 := by have he : (e != 0) = true := he; simpa using he
    rw [if_pos he]; exact ⟨leAr (l := []) z0r, rfl⟩
  · have he : e = 0 := by have he : (e != 0) = false := he; simpa using he
    subst he
    obtain ⟨hv, hvu, hbu, hsz, _, hg0, hg1⟩ := okF rfl
    rw [if_neg (by simp)]
    have hleaf := zqx u hsz hbu
    rw [if_pos hvu] at hleaf
    have hany := c_anyO (z0s u) out (by simp only [B]; omega)
    have eb : z66 ilv out u = (!z3s u || ((z0s u).k == 1 && decide ((z0s u).n ≤ ilv)) || out.any fun v => lfB v (z0s u)) := rfl
    have go : z66 ilv out u = false → 1 ≤ 1 ∧ (out.length ≤ (FTs out).length ∧ z0k (out.length + 1) 56) ∧ RPt Tryz.prog 13 3 (aAr (z2i s ilv (out ++ [z0s u]) b g)) (oS s) 1
      ⟨[(0, aS 0), (3, ci g), (11, .c (.a (.ep 3 6 0 0))), (13, .c (.a (.osl 4 4 0 (out.length + 1)))), (35, aL (pre ++ t :: b)), (36, ci ((pre ++ t :: b).length : Int)), (37, ci ((pre.length : Int) + 1))],
       [(0, sto2 1 2 s), (1, .arz 6 (SR s.V)), (2, .arz 1 (IR s.T)), (3, oInf ⟨ilv, ibd, ⟨ik, is, iN, il⟩⟩), (4, .arz 4 (List.take out.length (FTs out) ++ [FT4 (z0s u)]))], 5⟩ := fun _ => by
     have hn := next g (z0s u) (by omega) (fun x hx => ⟨(hb x (List.mem_cons_of_mem _ hx)).1, fun hv => ((hb x (List.mem_cons_of_mem _ hx)).2 hv).mono (by omega)⟩)
     have e5 : List.take out.length (FTs out) ++ [FT4 (z0s u)] = FTs (out ++ [z0s u]) := by rw [List.take_of_length_le (by rw [z01]; omega), z7e, z27]; rfl
     have e7 : (out ++ [z0s u]).length = out.length + 1 := by simp
     have e8 : (((pre ++ [t]).length : Nat) : Int) = (pre.length : Int) + 1 := by simp
     rw [e7, e8] at hn
     rw [e5]
     exact ⟨Nat.le_refl _, ⟨by rw [z01]; exact Nat.le_refl _, z5k (by omega)⟩, hn⟩
    have bad : z66 ilv out u = true → (TV.Le (.tup [(false, [.a (.fz .nils)]), (false, [.a (.fz (.int .i64 0))]), (false, [.a (.fz (.int .i64 171))])]) (aAr (if z66 ilv out u = true then ([], 0, 171) else z2i s ilv (out ++ [z0s u]) b g)) ∧ oS s = oS s) := fun h => by
     rw [if_pos h]; exact ⟨leAr (l := []) z0r, rfl⟩
    have good : ∀ h : z66 ilv out u = false, 1 ≤ 1 ∧ (out.length ≤ (FTs out).length ∧ z0k (out.length + 1) 56) ∧ RPt Tryz.prog 13 3 (aAr (if z66 ilv out u = true then ([], 0, 171) else z2i s ilv (out ++ [z0s u]) b g)) (oS s) 1
      ⟨[(0, aS 0), (3, ci g), (11, .c (.a (.ep 3 6 0 0))), (13, .c (.a (.osl 4 4 0 (out.length + 1)))), (35, aL (pre ++ t :: b)), (36, ci ((pre ++ t :: b).length : Int)), (37, ci ((pre.length : Int) + 1))],
       [(0, sto2 1 2 s), (1, .arz 6 (SR s.V)), (2, .arz 1 (IR s.T)), (3, oInf ⟨ilv, ibd, ⟨ik, is, iN, il⟩⟩), (4, .arz 4 (List.take out.length (FTs out) ++ [FT4 (z0s u)]))], 5⟩ := fun h => by
     have := go h
     rw [if_neg (by rw [h]; simp)]; exact this
    refine ⟨(z0s u, z3s u), hleaf, z00 (fun h1 => ?_) (fun h1 => ?_)⟩
    · have h1 : ((z0s u).k == 1) = true := h1
      rw [h1, Bool.true_and] at eb
      refine ⟨_, hany, z00 (fun h2 => bad ?_) (fun h2 => z00 (fun h3 => bad ?_) (fun h3 => z00 (fun h4 => bad ?_) (fun h4 => good ?_)))⟩
      · have h2 : (!z3s u) = true := h2
        rw [eb, h2]; rfl
      · have h3 : decide ((z0s u).n ≤ ilv) = true := h3
        rw [eb, h3, Bool.or_true]; rfl
      · have h4 : (out.any fun v => lfB v (z0s u)) = true := h4
        rw [eb, h4, Bool.or_true]
      · have h2 : (!z3s u) = false := h2
        have h3 : decide ((z0s u).n ≤ ilv) = false := h3
        have h4 : (out.any fun v => lfB v (z0s u)) = false := h4
        rw [eb, h2, h3, h4]; rfl
    · have h1 : ((z0s u).k == 1) = false := h1
      rw [h1, Bool.false_and, Bool.or_false] at eb
      refine ⟨_, hany, z00 (fun h2 => bad ?_) (fun h2 => z00 (fun h4 => bad ?_) (fun h4 => good ?_))⟩
      · have h2 : (!z3s u) = true := h2
        rw [eb, h2]; rfl
      · have h4 : (out.any fun v => lfB v (z0s u)) = true := h4
        rw [eb, h4, Bool.or_true]
      · have h2 : (!z3s u) = false := h2
        have h4 : (out.any fun v => lfB v (z0s u)) = false := h4
        rw [eb, h2, h4]; rfl
theorem zu6 (s : Sto) (hs : OKS s) (x f : Int) (l : List Tm) (hl0 : l.length ≤ 1000000000) (h0 : 0 - 9223372036854775808 ≤ f) (hb : ∀ t ∈ l, t.sz ≤ B ∧ (validB t = true → Fit f.toNat t)) : AC Tryz.prog 13 [aS 0, ci x, aL l, ci f] (oS s) (aAr (z0o s x l f)) (oS s) := by
 have hI := z7r s x
 have hO := zsw (fun t => !validB t) l (by simp only [B]; omega) (fun u hu => c_iodd u (hb u hu).1)
 have eA : z0o s x l f = if (!inB s.V x || l.any fun t => !validB t) = true then ([], 0, 1) else z2i s (infOf s.V x).lv [] l f := rfl
 rw [eA]
 generalize infOf s.V x = i at *
 generalize inB s.V x = ib at *
 generalize (l.any fun t => !validB t) = od at *
 obtain ⟨ilv, ibd, iv⟩ := i
 refine AC.vc hP sh lv13 (Nat.le_refl _) (by simp [isLive]) (by simp) (Eq.mpr (v13 x (FTs l) f ..) ?_)
 refine ⟨(ilv, ibd, iv, ib), hI, z00 (fun h => ?_) (fun h => ⟨_, hO, z00 (fun h2 => ?_) (fun h2 => ⟨rfl, ?_⟩)⟩)⟩
 · have h : (!ib) = true := h
   rw [h, Bool.true_or, if_pos rfl]; exact ⟨leAr (l := []) z0r, rfl⟩
 · rw [h2, Bool.or_true, if_pos rfl]; exact ⟨leAr (l := []) z0r, rfl⟩
 have h : (!ib) = false := h
 rw [h, h2, if_neg (by simp), z01]
 show RPt Tryz.prog 13 3 (aAr (z2i s ilv [] l f)) (oS s) 1 ⟨[(0, aS 0), (3, ci f), (11, .c (.a (.ep 3 6 0 0))), (13, .c (.a (.fz .nils))), (35, aL l), (36, ci (l.length : Int)), (37, ci 0)], [(0, sto2 1 2 s), (1, .arz 6 (SR s.V)), (2, .arz 1 (IR s.T)), (3, oInf ⟨ilv, ibd, iv⟩)], 4⟩
 cases l with
 | nil =>
  obtain ⟨ik, is, iN, il⟩ := iv
  refine RPt.vc hP sh lv13 (Eq.mpr (v13_1a f (FTs []) 0 0 ..) ?_)
  exact z00 (fun h => by cases h) (fun _ => ⟨leAr (l := []) z0r, rfl⟩)
 | cons t b =>
  obtain ⟨hz, hfit⟩ := hb t List.mem_cons_self
  have h3 := ltI' [] t b
  have em := z4x [] t b
  have hF := zc6 s hs f t h0 hz hfit
  have okF := z3g hs hfit
  have eA : z2i s ilv [] (t :: b) f = if (FullV s f t).2.2 ≠ 0 then ([], 0, (FullV s f t).2.2) else if z66 ilv [] (FullV s f t).1 = true then ([], 0, 171) else z2i s ilv [z0s (FullV s f t).1] b (FullV s f t).2.1 := rfl
  have next := fun g w h1 h2 => zry s hs ⟨ilv, ibd, iv⟩ (t :: b) hl0 b [t] [w] g rfl (by simp) rfl h1 h2
  simp only [List.length_cons] at hl0
  rw [eA]
  generalize FullV s f t = z at *
  obtain ⟨u, g, e⟩ := z
  simp only at okF hF ⊢
  obtain ⟨ik, is, iN, il⟩ := iv
  refine RPt.vc hP sh lv13 (Eq.mpr (v13_1a f (FTs (t :: b)) ((t :: b).length : Nat) 0 ..) ?_)
  rw [show aE (List.getD (FTs (t :: b)) (Int.toNat 0) []) = aT t from zdp t, w64 (x := (0 : Int) + 1) (by omega) (by omega)]
  refine z00 (fun _ => ⟨⟨rfl, Int.le_refl _, h3, em⟩, (u, g, e), hF, z00 (fun he => ?_) (fun he => ?_)⟩) (fun h => absurd (of_decide_eq_false h) (by simp only [List.length_cons]; omega))
  · have he : e ≠ 0 := by have he : (e != 0) = true := he; simpa using he
    rw [if_pos he]; exact ⟨leAr (l := []) z0r, rfl⟩
  · have he : e = 0 := by have he : (e != 0) = false := he; simpa using he
    subst he
    obtain ⟨hv, hvu, hbu, hsz, _, hg0, hg1⟩ := okF rfl
    rw [if_neg (by simp)]
    have hleaf := zqx u hsz hbu
    rw [if_pos hvu] at hleaf
    have hany := c_anyN (z0s u)
    have eb : z66 ilv [] u = (!z3s u || ((z0s u).k == 1 && decide ((z0s u).n ≤ ilv))) := by rw [z66, List.any_nil, Bool.or_false]
    have bad : z66 ilv [] u = true → (TV.Le (.tup [(false, [.a (.fz .nils)]), (false, [.a (.fz (.int .i64 0))]), (false, [.a (.fz (.int .i64 171))])]) (aAr (if z66 ilv [] u = true then ([], 0, 171) else z2i s ilv [z0s u] b g)) ∧ oS s = oS s) := fun h => by
     rw [if_pos h]; exact ⟨leAr (l := []) z0r, rfl⟩
    have good : ∀ h : z66 ilv [] u = false, 1 ≤ 1 ∧ z0k 1 56 ∧ RPt Tryz.prog 13 3 (aAr (if z66 ilv [] u = true then ([], 0, 171) else z2i s ilv [z0s u] b g)) (oS s) 1
      ⟨[(0, aS 0), (3, ci g), (11, .c (.a (.ep 3 6 0 0))), (13, .c (.a (.osl 4 4 0 1))), (35, aL (t :: b)), (36, ci ((t :: b).length : Int)), (37, ci (0 + 1))],
       [(0, sto2 1 2 s), (1, .arz 6 (SR s.V)), (2, .arz 1 (IR s.T)), (3, oInf ⟨ilv, ibd, ⟨ik, is, iN, il⟩⟩), (4, .arz 4 [FT4 (z0s u)])], 5⟩ := fun h => by
     have hn := next g (z0s u) (by omega) (fun x hx => ⟨(hb x (List.mem_cons_of_mem _ hx)).1, fun hv => ((hb x (List.mem_cons_of_mem _ hx)).2 hv).mono (by omega)⟩)
     rw [if_neg (by rw [h]; simp), z7e]
     exact ⟨Nat.le_refl _, z5k (by omega), hn⟩
    refine ⟨(z0s u, z3s u), hleaf, z00 (fun h1 => ?_) (fun h1 => ?_)⟩
    · have h1 : ((z0s u).k == 1) = true := h1
      rw [h1, Bool.true_and] at eb
      refine ⟨_, hany, z00 (fun h2 => bad ?_) (fun h2 => z00 (fun h3 => bad ?_) (fun h3 => z00 (fun h4 => by cases h4) (fun _ => good ?_)))⟩
      · have h2 : (!z3s u) = true := h2
        rw [eb, h2]; rfl
      · have h3 : decide ((z0s u).n ≤ ilv) = true := h3
        rw [eb, h3, Bool.or_true]
      · have h2 : (!z3s u) = false := h2
        have h3 : decide ((z0s u).n ≤ ilv) = false := h3
        rw [eb, h2, h3]; rfl
    · have h1 : ((z0s u).k == 1) = false := h1
      rw [h1, Bool.false_and, Bool.or_false] at eb
      refine ⟨_, hany, z00 (fun h2 => bad ?_) (fun h2 => z00 (fun h4 => by cases h4) (fun _ => good ?_))⟩
      · have h2 : (!z3s u) = true := h2
        rw [eb, h2]
      · have h2 : (!z3s u) = false := h2
        rw [eb, h2]
end Go.AM

set_option maxRecDepth 100000
open Go Go.Proofs

set_option maxRecDepth 100000
open Go Go.Proofs
namespace Go.AM
structure IS where
 s : Sto
 f : Int
 e : Int
abbrev aIV : TV := .c (.a (.ep 0 6 0 0))
abbrev oIV (x lv : Int) (L : List Tm) (f e : Int) : AObj := .arr 6 [[.a (.ep 1 2 0 0), .a (.fz (.int .i64 x)), .a (.fz (.int .i64 lv)), .a (.fz (.sl false 4 (FTs L))), .a (.fz (.int .i64 f)), .a (.fz (.int .i64 e))]]
abbrev oIs (x lv : Int) (L : List Tm) (f e : Int) (s : Sto) : List AObj := [oIV x lv L f e, sto2 2 3 s, .arz 6 (SR s.V), .arz 1 (IR s.T)]
abbrev oIt (x lv : Int) (L : List Tm) (f e : Int) (s : Sto) : List AObj := [oIV x lv L f e, sto2 4 5 s, .gone, .gone, .arz 6 (SR s.V), .arz 1 (IR s.T)]
abbrev bV3 (n : Int) : Tm := .mk 3 [] n []
def z2f (q : IS) (e : Int) : IS := if q.e = 0 then ⟨q.s, q.f, e⟩ else q
theorem zsn (x lv : Int) (L : List Tm) (f e er : Int) (s : Sto) : AC Tryz.prog 90 [aIV, ci er] (oIs x lv L f e s) (aT noT) (oIs x lv L f (if e = 0 then er else e) s) := by
 refine AC.vc hP sh lv90 (by simp) (by simp [isLive]) (by simp) (Eq.mpr (v90 ..) ?_)
 refine z00 (fun h => ?_) (fun h => ?_)
 · have h : (e == 0) = true := h
   rw [if_pos (by simpa using h)]; exact ⟨leT (l := []) z0r, rfl⟩
 · have h : (e == 0) = false := h
   rw [if_neg (by simpa using h)]; exact ⟨leT (l := []) z0r, rfl⟩
def outT (t : Tm) (k : Int) : Tm := if t.k = 3 then .mk t.k t.s (t.n - k) t.l else t
def imgT (lv : Int) (L : List Tm) (t : Tm) (k : Int) : Tm × Bool :=
 if t.k = 3 ∧ t.n < k then (t, true) else if ixF (fun u => lfB u (outT t k)) L 0 ≥ 0 then (bV3 (k + (L.length : Int) - 1 - ixF (fun u => lfB u (outT t k)) L 0), true) else (t, t.k == 1 && decide (t.n ≤ lv))
theorem zn6 (x lv : Int) (L : List Tm) (f e : Int) (s : Sto) (t : Tm) (k : Int) (hL : L.length ≤ 100000) (hn : t.k = 3 → -4611686018427387904 ≤ t.n ∧ t.n ≤ 4611686018427387904) (hk0 : 0 ≤ k) (hk1 : k ≤ 1099511627776) :
  AC Tryz.prog 94 [aIV, aT t, ci k] (oIs x lv L f e s) (zgl (imgT lv L t k).1 (imgT lv L t k).2) (oIs x lv L f e s) := by
 have hx := zqe (fun u => lfB u (outT t k)) (outT t k) L (by simp only [B]; omega) (fun u _ => c_image1 u (outT t k))
 have hlt := ztr (fun u => lfB u (outT t k)) L 0
 have i1 : t.k = 3 ∧ t.n < k → imgT lv L t k = (t, true) := fun h => if_pos h
 have i2 : ¬ (t.k = 3 ∧ t.n < k) → ixF (fun u => lfB u (outT t k)) L 0 ≥ 0 → imgT lv L t k = (bV3 (k + (L.length : Int) - 1 - ixF (fun u => lfB u (outT t k)) L 0), true) := fun h h2 => (if_neg h).trans (if_pos h2)
 have i3 : ¬ (t.k = 3 ∧ t.n < k) → ¬ ixF (fun u => lfB u (outT t k)) L 0 ≥ 0 → imgT lv L t k = (t, t.k == 1 && decide (t.n ≤ lv)) := fun h h2 => (if_neg h).trans (if_neg h2)
 generalize imgT lv L t k = Z at *
 generalize ixF (fun u => lfB u (outT t k)) L 0 = p at *
 have hb := zgg (k + (L.length : Int) - 1 - p)
 obtain ⟨tk, ts, tn, tl⟩ := t
 simp only [Tm.n, Tm.k] at hn i1 i2 i3
 have tail : ¬ (tk = 3 ∧ tn < k) → br (decide (p ≥ 0)) (FV.isSl 4 (.sl false 4 (FTs L)) = true ∧ ∃ z2 : Tm, AC Tryz.prog 121 [ci (IntKind.wrap .i64 (IntKind.wrap .i64 (IntKind.wrap .i64 (k + (((FTs L).length : Nat) : Int)) - 1) - p))] [] (aT z2) [] ∧
   TV.Le (.tup [(true, cT z2), (false, [.a (.fz (.bool true))])]) (zgl Z.1 Z.2) ∧ oIs x lv L f e s = oIs x lv L f e s)
   (br (tk == 1) (TV.Le (.tup [(true, [.a (.fz (.int .i64 tk)), .a (.fz (.str ts)), .a (.fz (.int .i64 tn)), .a (.fz (.sl false 4 (FTs tl)))]), (false, [.a (.fz (.bool (decide (tn ≤ lv))))])]) (zgl Z.1 Z.2) ∧ oIs x lv L f e s = oIs x lv L f e s)
    (TV.Le (.tup [(true, [.a (.fz (.int .i64 tk)), .a (.fz (.str ts)), .a (.fz (.int .i64 tn)), .a (.fz (.sl false 4 (FTs tl)))]), (false, [.a (.fz (.bool false))])]) (zgl Z.1 Z.2) ∧ oIs x lv L f e s = oIs x lv L f e s)) := by
  intro h0
  rw [z01]
  refine z00 (fun h => ?_) (fun h => ?_)
  · have h := of_decide_eq_true h
    rw [i2 h0 h, w64 (x := k + (L.length : Int)) (by omega) (by omega), w64 (x := k + (L.length : Int) - 1) (by omega) (by omega), w64 (x := k + (L.length : Int) - 1 - p) (by omega) (by omega)]
    exact ⟨rfl, _, hb, .refl _, rfl⟩
  · have h := of_decide_eq_false h
    rw [i3 h0 h]
    refine z00 (fun h1 => ?_) (fun h1 => ?_)
    · rw [h1, Bool.true_and]; exact ⟨.refl _, rfl⟩
    · rw [h1, Bool.false_and]; exact ⟨.refl _, rfl⟩
 refine AC.vc hP sh lv94 (by simp) (by simp [isLive]) (by simp) (Eq.mpr (v94 tk ts tn (FTs tl) k ..) ?_)
 refine z00 (fun h3 => ?_) (fun h3 => ?_)
 · have h3 : tk = 3 := by have h3 : (tk == 3) = true := h3; simpa using h3
   subst h3
   have hn := hn rfl
   have eo : outT (.mk 3 ts tn tl) k = .mk 3 ts (tn - k) tl := rfl
   rw [eo] at hx
   refine z00 (fun h4 => ?_) (fun h4 => ?_)
   · have h4 := of_decide_eq_true h4
     rw [i1 ⟨rfl, h4⟩]; exact ⟨.refl _, rfl⟩
   · have h4 := of_decide_eq_false h4
     rw [w64 (x := tn - k) (by omega) (by omega)]
     refine z00 (fun _ => ⟨p, hx, tail (fun q => h4 q.2)⟩) (fun h => by cases h)
 · have h3 : tk ≠ 3 := by have h3 : (tk == 3) = false := h3; simpa using h3
   have eo : outT (.mk tk ts tn tl) k = .mk tk ts tn tl := if_neg h3
   rw [eo] at hx
   refine z00 (fun h => absurd (by have h : (tk == 3) = true := h; simpa using h) h3) (fun _ => ⟨p, hx, tail (fun q => h3 q.1)⟩)
end Go.AM

set_option maxRecDepth 100000
open Go Go.Proofs
namespace Go.AM
def imgs (lv : Int) (L : List Tm) (k : Int) (m : Nat) : List Tm → Nat → List Tm × List Tm → List Tm × List Tm
 | [], _, a => a
 | t :: l, i, a => imgs lv L k m l (i + 1) (if (imgT lv L t k).2 = true then (a.1 ++ [bV3 ((m : Int) - 1 - (i : Int))], a.2 ++ [(imgT lv L t k).1]) else a)
def z4b (c : Bool) (lvy k : Int) (n : Nat) : List Tm → Nat → List Tm × List Tm → List Tm × List Tm
 | [], _, a => a
 | t :: l, i, a => z4b c lvy k n l (i + 1) (if (c && (t.k == 1 && decide (t.n ≤ lvy))) = true then (a.1 ++ [t], a.2 ++ [bV3 (k + (n : Int) - 1 - (i : Int))]) else a)
def onF (lv lvy : Int) (L : List Tm) (k : Int) (ls : List Tm) : List Tm × List Tm := z4b (decide (lvy > lv)) lvy k L.length L 0 (imgs lv L k ls.length ls 0 ([], []))
def z57 (lv : Int) (L : List Tm) (q : IS) (y k : Int) (ls : List Tm) (f : Int) : Tm × IS :=
 if (imgs lv L k ls.length ls 0 ([], [])).1.length = ls.length ∧ (infOf q.s.V y).lv ≤ lv then (applyF (.mk 4 [] y []) (imgs lv L k ls.length ls 0 ([], [])).2, ⟨q.s, f, q.e⟩)
 else (applyF (.mk 4 [] (q.s.V.length : Int) []) (onF lv (infOf q.s.V y).lv L k ls).2, ⟨z7o q.s y (z1f [lv, (infOf q.s.V y).lv]) ls.length (onF lv (infOf q.s.V y).lv L k ls).1, f, q.e⟩)
def z2s (lv : Int) (L : List Tm) (q : IS) (y : Int) (l : List Tm) (k : Int) : Tm × IS :=
 if (z0o q.s y l q.f).2.2 ≠ 0 then (noT, z2f q (z0o q.s y l q.f).2.2) else z57 lv L q y k (z0o q.s y l q.f).1 (z0o q.s y l q.f).2.1
abbrev fxH (x lv : Int) (L : List Tm) (f e : Int) (s : Sto) (i : Inf) : AHeap := [(0, oIV x lv L f e), (1, sto2 4 5 s), (2, .gone), (3, .gone), (4, .arz 6 (SR s.V)), (5, .arz 1 (IR s.T)), (6, .arr 4 [zT]), (7, oInf i)]
abbrev fxS (x lv : Int) (L : List Tm) (f e : Int) (s : Sto) (i : Inf) (y k : Int) (ls on im l : List Tm) (a b c : Nat) (j : Int) : St :=
 if on = [] then ⟨[(0, aIV), (1, ci y), (3, ci k), (8, .c (.a (.ep 6 4 0 0))), (9, aL ls), (12, .c (.a (.ep 7 6 0 0))), (14, .c (.a (.fz .nils))), (15, .c (.a (.fz .nils))), (a, aL l), (b, ci (l.length : Int)), (c, ci j)], fxH x lv L f e s i, 8⟩
 else ⟨[(0, aIV), (1, ci y), (3, ci k), (8, .c (.a (.ep 6 4 0 0))), (9, aL ls), (12, .c (.a (.ep 7 6 0 0))), (14, .c (.a (.osl 8 4 0 on.length))), (15, .c (.a (.osl 9 4 0 im.length))), (a, aL l), (b, ci (l.length : Int)), (c, ci j)], fxH x lv L f e s i ++ [(8, .arz 4 (FTs on)), (9, .arz 4 (FTs im))], 10⟩
theorem zs5 {α : Type} (l : List α) (a : α) : l ++ [a] ≠ [] := by simp
theorem zl2 (x lv : Int) (L : List Tm) (f e : Int) (s : Sto) (ilv : Int) (ibd : Bool) (iv : Tm) (y k : Int) (ls : List Tm) (hL : L.length ≤ 100000) (hk0 : 0 ≤ k) (hk1 : k ≤ 1099511627776) (r : Tm) (S : Sto) (fin : List Tm × List Tm)
  (hfin : fin.1.length ≤ 200000 ∧ fin.2.length ≤ 200000) (hh : AC Tryz.prog 123 [aS 0, ci y, ci (z1f [lv, ilv]), ci (ls.length : Int), aL fin.1] (oS s) (aT (.mk 4 [] (s.V.length : Int) [])) (oS' S)) (hr : applyF (.mk 4 [] (s.V.length : Int) []) fin.2 = r) :
  ∀ (b pre on im : List Tm), L = pre ++ b → on.length = im.length → on.length + b.length ≤ 200000 → z4b (decide (ilv > lv)) ilv k L.length b pre.length (on, im) = fin →
  RPt Tryz.prog 93 4 (aT r) (oIt x lv L f e S) 5 (fxS x lv L f e s ⟨ilv, ibd, iv⟩ y k ls on im L 105 106 107 (pre.length : Int))
 | [], pre, on, im, hl, ho, h2, hm => by
  rw [List.append_nil] at hl
  have hm : (on, im) = fin := hm
  subst hm
  have ha := z3t (.mk 4 [] (s.V.length : Int) []) im (by simp only [Tm.l, List.length_nil]; omega)
  simp only at hh hr hfin
  rw [hr] at ha
  obtain ⟨ik, is, iN, il⟩ := iv
  unfold fxS
  by_cases hn : on = []
  · subst hn
    have : im = [] := List.eq_nil_of_length_eq_zero ho.symm
    subst this
    rw [if_pos rfl]
    refine RPt.vc hP sh lv93 (Eq.mpr (v93_5a ..) ?_)
    refine z00 (fun h => absurd (of_decide_eq_true h) (by rw [hl]; omega)) (fun _ => ⟨rfl, ?_⟩)
    rw [z01]
    exact ⟨(_, S), hh.args ⟨.refl _, .refl _, .refl _, .refl _, .c _ _ (.a _ _ (.fz _ _ z0r)), trivial⟩, _, ha.args ⟨.refl _, .c _ _ (.a _ _ (.fz _ _ z0r)), trivial⟩, .refl _, rfl⟩
  · rw [if_neg hn]
    refine RPt.vc hP sh lv93 (Eq.mpr (v93_5b ..) ?_)
    refine z00 (fun h => absurd (of_decide_eq_true h) (by rw [hl]; omega)) (fun _ => ⟨rfl, ⟨rfl, by rw [z01]; omega⟩, ?_⟩)
    rw [z01, List.drop_zero, List.take_of_length_le (l := FTs on) (by rw [z01]; exact Nat.le_refl _), List.drop_zero, List.take_of_length_le (l := FTs im) (by rw [z01]; exact Nat.le_refl _)]
    refine ⟨(_, S), hh, ?_⟩
    exact ⟨⟨rfl, by rw [z01]; omega⟩, _, ha, .refl _, rfl⟩
 | t :: b, pre, on, im, hl, ho, h2, hm => by
  have hlen : L.length = pre.length + (b.length + 1) := by rw [hl]; simp
  have em : List.getD (FTs L) (Int.toNat (pre.length : Int)) [] = FT t := by rw [hl]; exact midI pre t b
  have h3 : ((pre.length : Nat) : Int) < (((FTs L).length : Nat) : Int) := by rw [z01]; omega
  have ek : FV.asI (List.getD (FT t) 0 FV.nils) = t.k := by cases t; rfl
  have en : FV.asI (List.getD (FT t) 2 FV.nils) = t.n := by cases t; rfl
  have hmm : z4b (decide (ilv > lv)) ilv k L.length (t :: b) pre.length (on, im) = z4b (decide (ilv > lv)) ilv k L.length b (pre.length + 1) (if (decide (ilv > lv) && (t.k == 1 && decide (t.n ≤ ilv))) = true then (on ++ [t], im ++ [bV3 (k + (L.length : Int) - 1 - (pre.length : Int))]) else (on, im)) := rfl
  rw [hmm] at hm
  have ej : (((pre ++ [t]).length : Nat) : Int) = (pre.length : Int) + 1 := by simp
  have en1 : (pre ++ [t]).length = pre.length + 1 := by simp
  have skip : (decide (ilv > lv) && (t.k == 1 && decide (t.n ≤ ilv))) = false → RPt Tryz.prog 93 4 (aT r) (oIt x lv L f e S) 5 (fxS x lv L f e s ⟨ilv, ibd, iv⟩ y k ls on im L 105 106 107 ((pre.length : Int) + 1)) := fun h => by
   rw [h, if_neg (by simp)] at hm
   have := zl2 x lv L f e s ilv ibd iv y k ls hL hk0 hk1 r S fin hfin hh hr b (pre ++ [t]) on im (by rw [hl]; simp) ho (by simp only [List.length_cons] at h2; omega) (by rw [en1]; exact hm)
   rw [ej] at this; exact this
  have take : (decide (ilv > lv) && (t.k == 1 && decide (t.n ≤ ilv))) = true → on.length + 1 + b.length ≤ 200000 → RPt Tryz.prog 93 4 (aT r) (oIt x lv L f e S) 5 (fxS x lv L f e s ⟨ilv, ibd, iv⟩ y k ls (on ++ [t]) (im ++ [bV3 (k + (L.length : Int) - 1 - (pre.length : Int))]) L 105 106 107 ((pre.length : Int) + 1)) := fun h h9 => by
   rw [if_pos h] at hm
   have := zl2 x lv L f e s ilv ibd iv y k ls hL hk0 hk1 r S fin hfin hh hr b (pre ++ [t]) (on ++ [t]) (im ++ [bV3 (k + (L.length : Int) - 1 - (pre.length : Int))]) (by rw [hl]; simp) (by simp [ho]) (by simp only [List.length_append, List.length_cons, List.length_nil]; omega) (by rw [en1]; exact hm)
   rw [ej] at this; exact this
  have hb := zgg (k + (L.length : Int) - 1 - (pre.length : Int))
  have room : on.length + 1 + b.length ≤ 200000 := by simp only [List.length_cons] at h2; omega
  have op : FV.isSl 4 (.sl false 4 (FTs L)) = true ∧ ((0 : Int) ≤ (pre.length : Int) ∧ (((pre.length : Int) < (((FTs L).length : Nat) : Int)) ∧ ((rE (FT t) : List FV) = FT t))) := ⟨rfl, by omega, h3, zgp t⟩
  obtain ⟨ik, is, iN, il⟩ := iv
  have w : IntKind.wrap .i64 (IntKind.wrap .i64 (IntKind.wrap .i64 (k + (((FTs L).length : Nat) : Int)) - 1) - (pre.length : Int)) = k + (L.length : Int) - 1 - (pre.length : Int) := by
   rw [z01, w64 (x := k + (L.length : Int)) (by omega) (by omega), w64 (x := k + (L.length : Int) - 1) (by omega) (by omega), w64 (by omega) (by omega)]
  unfold fxS at skip take ⊢
  rw [if_neg (zs5 on t)] at take
  by_cases hn : on = []
  · subst hn
    have : im = [] := List.eq_nil_of_length_eq_zero ho.symm
    subst this
    rw [if_pos rfl] at skip ⊢
    refine RPt.vc hP sh lv93 (Eq.mpr (v93_5a ..) ?_)
    rw [em, ek, en, w64 (x := (pre.length : Int) + 1) (by omega) (by omega), w]
    refine z00 (fun _ => ⟨op, z00 (fun c1 => z00 (fun c2 => z00 (fun c3 => ?_) (fun c3 => skip ?_)) (fun c2 => skip ?_)) (fun c1 => skip ?_)⟩) (fun h => absurd (of_decide_eq_false h) (by omega))
    · have c1 : decide (ilv > lv) = true := c1
      have c2 : (t.k == 1) = true := c2
      have c3 : decide (t.n ≤ ilv) = true := c3
      refine ⟨Nat.le_refl _, z5k (by omega), rfl, _, hb, Nat.le_refl _, z5k (by omega), ?_⟩
      rw [zgp]
      exact take (by rw [c1, c2, c3]; rfl) room
    · have c3 : decide (t.n ≤ ilv) = false := c3
      rw [c3, Bool.and_false, Bool.and_false]
    · have c2 : (t.k == 1) = false := c2
      rw [c2, Bool.false_and, Bool.and_false]
    · have c1 : decide (ilv > lv) = false := c1
      rw [c1, Bool.false_and]
  · rw [if_neg hn] at skip ⊢
    refine RPt.vc hP sh lv93 (Eq.mpr (v93_5b ..) ?_)
    rw [em, ek, en, w64 (x := (pre.length : Int) + 1) (by omega) (by omega), w]
    refine z00 (fun _ => ⟨op, z00 (fun c1 => z00 (fun c2 => z00 (fun c3 => ?_) (fun c3 => skip ?_)) (fun c2 => skip ?_)) (fun c1 => skip ?_)⟩) (fun h => absurd (of_decide_eq_false h) (by omega))
    · have c1 : decide (ilv > lv) = true := c1
      have c2 : (t.k == 1) = true := c2
      have c3 : decide (t.n ≤ ilv) = true := c3
      refine ⟨Nat.le_refl _, ⟨by rw [z01]; exact Nat.le_refl _, z5k (by omega)⟩, rfl, _, hb, Nat.le_refl _, ⟨by rw [z01]; exact Nat.le_refl _, z5k (by omega)⟩, ?_⟩
      rw [zgp, List.take_of_length_le (l := FTs on) (by rw [z01]; exact Nat.le_refl _), List.take_of_length_le (l := FTs im) (by rw [z01]; exact Nat.le_refl _), z7e]
      have := take (by rw [c1, c2, c3]; rfl) room
      rw [z27, z27, List.length_append, List.length_append] at this
      exact this
    · have c3 : decide (t.n ≤ ilv) = false := c3
      rw [c3, Bool.and_false, Bool.and_false]
    · have c2 : (t.k == 1) = false := c2
      rw [c2, Bool.false_and, Bool.and_false]
    · have c1 : decide (ilv > lv) = false := c1
      rw [c1, Bool.false_and]
theorem z6w (c : Bool) (lvy k : Int) (n : Nat) : ∀ (l : List Tm) (i : Nat) (a : List Tm × List Tm), a.1.length = a.2.length → (z4b c lvy k n l i a).1.length = (z4b c lvy k n l i a).2.length ∧ (z4b c lvy k n l i a).1.length ≤ a.1.length + l.length
 | [], _, a, h => ⟨h, Nat.le_refl _⟩
 | t :: l, i, a, h => by
  rw [z4b]
  split
  · have := z6w c lvy k n l (i + 1) (a.1 ++ [t], a.2 ++ [bV3 (k + (n : Int) - 1 - (i : Int))]) (by simp [h])
    exact ⟨this.1, by have := this.2; simp only [List.length_append, List.length_cons, List.length_nil] at this ⊢; omega⟩
  · have := z6w c lvy k n l (i + 1) a h
    exact ⟨this.1, by have := this.2; simp only [List.length_cons]; omega⟩
theorem z8t (lv : Int) (L : List Tm) (k : Int) (m : Nat) : ∀ (l : List Tm) (i : Nat) (a : List Tm × List Tm), a.1.length = a.2.length → (imgs lv L k m l i a).1.length = (imgs lv L k m l i a).2.length ∧ (imgs lv L k m l i a).1.length ≤ a.1.length + l.length
 | [], _, a, h => ⟨h, Nat.le_refl _⟩
 | t :: l, i, a, h => by
  rw [imgs]
  split
  · have := z8t lv L k m l (i + 1) (a.1 ++ [bV3 ((m : Int) - 1 - (i : Int))], a.2 ++ [(imgT lv L t k).1]) (by simp [h])
    exact ⟨this.1, by have := this.2; simp only [List.length_append, List.length_cons, List.length_nil] at this ⊢; omega⟩
  · have := z8t lv L k m l (i + 1) a h
    exact ⟨this.1, by have := this.2; simp only [List.length_cons]; omega⟩
theorem zke (x lv : Int) (L : List Tm) (f e : Int) (s : Sto) (ilv : Int) (ibd : Bool) (iv : Tm) (y k : Int) (ls : List Tm) (hls : ls.length ≤ 100000) (r : Tm) (S : Sto) (fin : List Tm × List Tm)
  (hI : ∀ t ∈ ls, AC Tryz.prog 94 [aIV, aT t, ci k] (oIs x lv L f e s) (zgl (imgT lv L t k).1 (imgT lv L t k).2) (oIs x lv L f e s))
  (full : fin.1.length = ls.length → ilv ≤ lv → applyF (.mk 4 [] y []) fin.2 = r ∧ s = S)
  (part : ¬ (fin.1.length = ls.length ∧ ilv ≤ lv) → RPt Tryz.prog 93 4 (aT r) (oIt x lv L f e S) 5 (fxS x lv L f e s ⟨ilv, ibd, iv⟩ y k ls fin.1 fin.2 L 105 106 107 0)) :
  ∀ (b pre on im : List Tm), ls = pre ++ b → on.length = im.length → on.length ≤ pre.length → imgs lv L k ls.length b pre.length (on, im) = fin →
  RPt Tryz.prog 93 4 (aT r) (oIt x lv L f e S) 1 (fxS x lv L f e s ⟨ilv, ibd, iv⟩ y k ls on im ls 55 56 57 (pre.length : Int))
 | [], pre, on, im, hl, ho, h2, hm => by
  rw [List.append_nil] at hl
  have hm : (on, im) = fin := hm
  subst hm
  have hlp : ls.length = pre.length := by rw [hl]
  have ha := z3t (.mk 4 [] y []) im (by simp only [Tm.l, List.length_nil]; omega)
  simp only at full part
  have hv := zbz y
  obtain ⟨ik, is, iN, il⟩ := iv
  unfold fxS at part ⊢
  by_cases hn : on = []
  · subst hn
    have : im = [] := List.eq_nil_of_length_eq_zero ho.symm
    subst this
    rw [if_pos rfl] at part ⊢
    refine RPt.vc hP sh lv93 (Eq.mpr (v93_1a ..) ?_)
    rw [z01]
    refine z00 (fun h => absurd (of_decide_eq_true h) (by rw [hl]; omega)) (fun _ => ⟨rfl, rfl, z00 (fun c1 => z00 (fun c2 => ?_) (fun c2 => ⟨rfl, ?_⟩)) (fun c1 => ⟨rfl, ?_⟩)⟩)
    · have c1 : (0 : Int) = (ls.length : Int) := eq_of_beq c1
      have c2 := of_decide_eq_true c2
      obtain ⟨e1, rfl⟩ := full (by simp only [List.length_nil]; omega) c2
      rw [e1] at ha
      exact ⟨_, hv, _, ha.args ⟨.refl _, .c _ _ (.a _ _ (.fz _ _ z0r)), trivial⟩, .refl _, rfl⟩
    · have c2 := of_decide_eq_false c2
      rw [z01]
      exact part (fun h => c2 h.2)
    · have c1 : ((0 : Int) == (ls.length : Int)) = false := c1
      rw [z01]
      exact part (fun h => by have := h.1; simp only [List.length_nil] at this; rw [← this] at c1; cases c1)
  · rw [if_neg hn] at part ⊢
    refine RPt.vc hP sh lv93 (Eq.mpr (v93_1b ..) ?_)
    rw [z01]
    refine z00 (fun h => absurd (of_decide_eq_true h) (by rw [hl]; omega)) (fun _ => ⟨rfl, z00 (fun c1 => z00 (fun c2 => ?_) (fun c2 => ⟨rfl, ?_⟩)) (fun c1 => ⟨rfl, ?_⟩)⟩)
    · have c1 : (on.length : Int) = (ls.length : Int) := eq_of_beq c1
      have c2 := of_decide_eq_true c2
      obtain ⟨e1, rfl⟩ := full (by omega) c2
      rw [e1] at ha
      rw [List.drop_zero, List.take_of_length_le (by rw [z01]; exact Nat.le_refl _)]
      exact ⟨_, hv, ⟨rfl, by rw [z01]; omega⟩, _, ha, .refl _, rfl⟩
    · have c2 := of_decide_eq_false c2
      rw [z01]
      exact part (fun h => c2 h.2)
    · have c1 : ((on.length : Int) == (ls.length : Int)) = false := c1
      rw [z01]
      exact part (fun h => by rw [h.1] at c1; simp at c1)
 | t :: b, pre, on, im, hl, ho, h2, hm => by
  have hlen : ls.length = pre.length + (b.length + 1) := by rw [hl]; simp
  have em : List.getD (FTs ls) (Int.toNat (pre.length : Int)) [] = FT t := by rw [hl]; exact midI pre t b
  have ea : aE (List.getD (FTs ls) (Int.toNat (pre.length : Int)) []) = aT t := by rw [hl]; exact z65 pre t b
  have h3 : ((pre.length : Nat) : Int) < (((FTs ls).length : Nat) : Int) := by rw [z01]; omega
  have hmm : imgs lv L k ls.length (t :: b) pre.length (on, im) = imgs lv L k ls.length b (pre.length + 1) (if (imgT lv L t k).2 = true then (on ++ [bV3 ((ls.length : Int) - 1 - (pre.length : Int))], im ++ [(imgT lv L t k).1]) else (on, im)) := rfl
  rw [hmm] at hm
  have hi := hI t (by rw [hl]; simp)
  have ej : (((pre ++ [t]).length : Nat) : Int) = (pre.length : Int) + 1 := by simp
  have en1 : (pre ++ [t]).length = pre.length + 1 := by simp
  generalize imgT lv L t k = z at *
  obtain ⟨z1, z2⟩ := z
  simp only at hm hi
  have skip : z2 = false → RPt Tryz.prog 93 4 (aT r) (oIt x lv L f e S) 1 (fxS x lv L f e s ⟨ilv, ibd, iv⟩ y k ls on im ls 55 56 57 ((pre.length : Int) + 1)) := fun h => by
   rw [h, if_neg (by simp)] at hm
   have := zke x lv L f e s ilv ibd iv y k ls hls r S fin hI full part b (pre ++ [t]) on im (by rw [hl]; simp) ho (by rw [en1]; omega) (by rw [en1]; exact hm)
   rw [ej] at this; exact this
  have take : z2 = true → RPt Tryz.prog 93 4 (aT r) (oIt x lv L f e S) 1 (fxS x lv L f e s ⟨ilv, ibd, iv⟩ y k ls (on ++ [bV3 ((ls.length : Int) - 1 - (pre.length : Int))]) (im ++ [z1]) ls 55 56 57 ((pre.length : Int) + 1)) := fun h => by
   rw [if_pos h] at hm
   have := zke x lv L f e s ilv ibd iv y k ls hls r S fin hI full part b (pre ++ [t]) (on ++ [bV3 ((ls.length : Int) - 1 - (pre.length : Int))]) (im ++ [z1]) (by rw [hl]; simp) (by simp [ho]) (by rw [en1]; simp; omega) (by rw [en1]; exact hm)
   rw [ej] at this; exact this
  have hb := zgg ((ls.length : Int) - 1 - (pre.length : Int))
  have op : FV.isSl 4 (.sl false 4 (FTs ls)) = true ∧ ((0 : Int) ≤ (pre.length : Int) ∧ (((pre.length : Int) < (((FTs ls).length : Nat) : Int)) ∧ ((rE (List.getD (FTs ls) (Int.toNat (pre.length : Int)) []) : List FV) = List.getD (FTs ls) (Int.toNat (pre.length : Int)) []))) := ⟨rfl, by omega, h3, by rw [em]; exact zgp t⟩
  have w : IntKind.wrap .i64 (IntKind.wrap .i64 ((((FTs ls).length : Nat) : Int) - 1) - (pre.length : Int)) = (ls.length : Int) - 1 - (pre.length : Int) := by
   rw [z01, w64 (x := (ls.length : Int) - 1) (by omega) (by omega), w64 (by omega) (by omega)]
  obtain ⟨ik, is, iN, il⟩ := iv
  unfold fxS at skip take ⊢
  rw [if_neg (zs5 on _)] at take
  by_cases hn : on = []
  · subst hn
    have : im = [] := List.eq_nil_of_length_eq_zero ho.symm
    subst this
    rw [if_pos rfl] at skip ⊢
    refine RPt.vc hP sh lv93 (Eq.mpr (v93_1a ..) ?_)
    rw [ea, w64 (x := (pre.length : Int) + 1) (by omega) (by omega), w]
    refine z00 (fun _ => ⟨op, (z1, z2), hi, z00 (fun c => ⟨rfl, _, hb, Nat.le_refl _, z5k (by omega), Nat.le_refl _, z5k (by omega), by rw [z7e, z7e]; exact take c⟩) (fun c => skip c)⟩) (fun h => absurd (of_decide_eq_false h) (by omega))
  · rw [if_neg hn] at skip ⊢
    refine RPt.vc hP sh lv93 (Eq.mpr (v93_1b ..) ?_)
    rw [ea, w64 (x := (pre.length : Int) + 1) (by omega) (by omega), w]
    refine z00 (fun _ => ⟨op, (z1, z2), hi, z00 (fun c => ⟨rfl, _, hb, Nat.le_refl _, ⟨by rw [z01]; exact Nat.le_refl _, z5k (by omega)⟩, Nat.le_refl _, ⟨by rw [z01]; exact Nat.le_refl _, z5k (by omega)⟩, ?_⟩) (fun c => skip c)⟩) (fun h => absurd (of_decide_eq_false h) (by omega))
    rw [List.take_of_length_le (l := FTs on) (by rw [z01]; exact Nat.le_refl _), List.take_of_length_le (l := FTs im) (by rw [z01]; exact Nat.le_refl _), z7e, z7e]
    have := take c
    rw [z27, z27, List.length_append, List.length_append] at this
    exact this
theorem c_iflex (x lv : Int) (L : List Tm) (q : IS) (y : Int) (l : List Tm) (k : Int) (hL : L.length ≤ 100000) (hk0 : 0 ≤ k) (hk1 : k ≤ 1099511627776)
  (hA : AC Tryz.prog 13 [aS 0, ci y, aL l, ci q.f] (oS q.s) (aAr (z0o q.s y l q.f)) (oS q.s)) (hls : (z0o q.s y l q.f).1.length ≤ 100000)
  (hI : ∀ t ∈ (z0o q.s y l q.f).1, AC Tryz.prog 94 [aIV, aT t, ci k] (oIs x lv L (z0o q.s y l q.f).2.1 q.e q.s) (zgl (imgT lv L t k).1 (imgT lv L t k).2) (oIs x lv L (z0o q.s y l q.f).2.1 q.e q.s))
  (hh : (z0o q.s y l q.f).2.2 = 0 → AC Tryz.prog 123 [aS 0, ci y, ci (z1f [lv, (infOf q.s.V y).lv]), ci ((z0o q.s y l q.f).1.length : Int), aL (onF lv (infOf q.s.V y).lv L k (z0o q.s y l q.f).1).1] (oS q.s) (aT (.mk 4 [] (q.s.V.length : Int) [])) (oS' (z7o q.s y (z1f [lv, (infOf q.s.V y).lv]) (z0o q.s y l q.f).1.length (onF lv (infOf q.s.V y).lv L k (z0o q.s y l q.f).1).1))) :
  AC Tryz.prog 93 [aIV, ci y, aL l, ci k] (oIs x lv L q.f q.e q.s) (aT (z2s lv L q y l k).1) (oIt x lv L (z2s lv L q y l k).2.f (z2s lv L q y l k).2.e (z2s lv L q y l k).2.s) := by
 have hinf := z7r q.s y
 have eF : z2s lv L q y l k = if (z0o q.s y l q.f).2.2 ≠ 0 then (noT, z2f q (z0o q.s y l q.f).2.2) else z57 lv L q y k (z0o q.s y l q.f).1 (z0o q.s y l q.f).2.1 := rfl
 rw [eF]
 generalize z0o q.s y l q.f = z at *
 obtain ⟨ls, g, er⟩ := z
 simp only at hA hls hI hh ⊢
 refine AC.vc hP sh lv93 (by simp) (by simp [isLive]) (by simp [isLive]) (Eq.mpr (v93 ..) ?_)
 refine ⟨(ls, g, er), hA, z00 (fun h => ?_) (fun h => ?_)⟩
 · have h : er ≠ 0 := by have h : (er != 0) = true := h; simpa using h
   rw [if_pos h]
   have hf := zsn x lv L q.f q.e er q.s
   refine ⟨(x, lv, L, q.f, if q.e = 0 then er else q.e), hf, ?_, ?_⟩
   · exact leT (l := []) (.refl _)
   · unfold z2f
     split <;> rfl
 · have h : er = 0 := by have h : (er != 0) = false := h; simpa using h
   subst h
   rw [if_neg (by simp)]
   have eG : z57 lv L q y k ls g = if (imgs lv L k ls.length ls 0 ([], [])).1.length = ls.length ∧ (infOf q.s.V y).lv ≤ lv then (applyF (.mk 4 [] y []) (imgs lv L k ls.length ls 0 ([], [])).2, ⟨q.s, g, q.e⟩)
    else (applyF (.mk 4 [] (q.s.V.length : Int) []) (onF lv (infOf q.s.V y).lv L k ls).2, ⟨z7o q.s y (z1f [lv, (infOf q.s.V y).lv]) ls.length (onF lv (infOf q.s.V y).lv L k ls).1, g, q.e⟩) := rfl
   have hh := hh rfl
   have eo : ∀ w, onF lv w L k ls = z4b (decide (w > lv)) w k L.length L 0 (imgs lv L k ls.length ls 0 ([], [])) := fun w => rfl
   have il := z8t lv L k ls.length ls 0 ([], []) rfl
   rw [eG]
   generalize infOf q.s.V y = i at *
   obtain ⟨ilv, ibd, iv⟩ := i
   have ml := z6w (decide (ilv > lv)) ilv k L.length L 0 (imgs lv L k ls.length ls 0 ([], [])) il.1
   rw [← eo ilv] at ml
   simp only [List.length_nil, Nat.zero_add] at il ml
   refine ⟨(ilv, ibd, iv, inB q.s.V y), hinf, rfl, ?_⟩
   rw [z01]
   have main : ∀ (r : Tm) (S : Sto), ((imgs lv L k ls.length ls 0 ([], [])).1.length = ls.length → ilv ≤ lv → applyF (.mk 4 [] y []) (imgs lv L k ls.length ls 0 ([], [])).2 = r ∧ q.s = S) →
     (¬ ((imgs lv L k ls.length ls 0 ([], [])).1.length = ls.length ∧ ilv ≤ lv) → applyF (.mk 4 [] (q.s.V.length : Int) []) (onF lv ilv L k ls).2 = r ∧ z7o q.s y (z1f [lv, ilv]) ls.length (onF lv ilv L k ls).1 = S) →
     RPt Tryz.prog 93 4 (aT r) (oIt x lv L g q.e S) 1 (fxS x lv L g q.e q.s ⟨ilv, ibd, iv⟩ y k ls [] [] ls 55 56 57 0) := fun r S h1 h2 => by
    refine zke x lv L g q.e q.s ilv ibd iv y k ls hls r S _ hI h1 (fun hn => ?_) ls [] [] [] rfl rfl (Nat.le_refl _) rfl
    obtain ⟨e1, e2⟩ := h2 hn
    have hfin : (onF lv ilv L k ls).1.length ≤ 200000 ∧ (onF lv ilv L k ls).2.length ≤ 200000 := by rw [← ml.1]; omega
    rw [e2] at hh
    exact zl2 x lv L g q.e q.s ilv ibd iv y k ls hL hk0 hk1 r S (onF lv ilv L k ls) hfin hh e1 L [] _ _ rfl il.1 (by omega) rfl
   split
   · rename_i hc
     exact main _ _ (fun _ _ => ⟨rfl, rfl⟩) (fun hn => absurd hc hn)
   · rename_i hc
     exact main _ _ (fun a b => absurd ⟨a, b⟩ hc) (fun _ => ⟨rfl, rfl⟩)
end Go.AM

set_option maxRecDepth 100000
open Go Go.Proofs
namespace Go.AM
theorem zsp {s : Sto} {D : Nat} {f : Int} {t : Tm} (h : (z08 s D f t).2.1 = 0) : 1 ≤ f ∧ 0 ≤ (z08 s D f t).2.2 ∧ (z08 s D f t).2.2 ≤ f - 1 := by
 cases D with
 | zero => cases h
 | succ D =>
  rw [z08] at h ⊢
  split at h
  · cases h
  · rename_i hf
    rw [if_neg hf]
    have h1 := zg7 s (f - 1).toNat t
    have h2 : 0 ≤ (z5h s (f - 1) t).2.2 ∧ (z5h s (f - 1) t).2.2 ≤ f - 1 := by simp only [z5h]; omega
    have h3 := z73 (z22 s D) (z5h s (f - 1) t).1.l ((z5h s (f - 1) t).1.k == 6) _ h2.1
    refine ⟨by omega, ?_⟩
    unfold zce
    split
    · exact ⟨h2.1, by simp only; omega⟩
    · unfold z7a
      split <;> exact ⟨h3.1, by simp only; omega⟩
theorem zu8 {s : Sto} {f : Int} {t : Tm} (h : (FullV s f t).2.2 = 0) : 1 ≤ f ∧ 0 ≤ (FullV s f t).2.1 ∧ (FullV s f t).2.1 ≤ f - 1 := by
 unfold FullV at h ⊢
 split at h
 · rename_i hv
   rw [if_pos hv]
   split at h
   · rename_i h1; rw [if_pos h1]; exact zsp h1
   · rename_i h1; exact absurd h h1
 · cases h
theorem zia {s : Sto} (lv : Int) : ∀ (l out : List Tm) (f : Int), 0 ≤ f → (z2i s lv out l f).2.2 = 0 → 0 ≤ (z2i s lv out l f).2.1 ∧ ((z2i s lv out l f).1.length : Int) + (z2i s lv out l f).2.1 ≤ (out.length : Int) + f
 | [], out, f, h0, _ => ⟨h0, Int.le_refl _⟩
 | t :: l, out, f, h0, h => by
  rw [z2i] at h ⊢
  split at h
  · rename_i h1; exact absurd h h1
  · rename_i h1
    rw [if_neg h1]
    split at h
    · cases h
    · rename_i h2
      rw [if_neg h2]
      have hd := zu8 (by simpa using h1 : (FullV s f t).2.2 = 0)
      have := zia lv l (out ++ [z0s (FullV s f t).1]) (FullV s f t).2.1 hd.2.1 h
      simp only [List.length_append, List.length_cons, List.length_nil] at this
      omega
def lfP (t : Tm) : Prop := t.sz = 1 ∧ (t.k = 3 ∨ t.k = 1) ∧ t.l = [] ∧ bd M61 t ∧ validB t = true
theorem leafF_P {u : Tm} (hv : validB u = true) (hb : bd M61 u) (h : z3s u = true) : lfP (z0s u) := by
 have so := z1o _ (z02 _ hv)
 have vs : validB (z04 u) = true := by rw [z1p, so.1, so.2.1 (z26 hv)]; rfl
 have bs := so.2.2.2 _ (by simp only [M61]; omega) hb
 have e : z0s u = z04 u := by rw [z0s, if_pos h]
 rw [e]
 have hk : (z04 u).k = 3 ∨ (z04 u).k = 1 := by
  unfold z3s at h
  simpa using h
 generalize z04 u = w at *
 obtain ⟨k, s, n, l⟩ := w
 have hk : k = 3 ∨ k = 1 := hk
 have hl : l = [] := okB0 (z02 _ vs) (by omega) (by omega)
 subst hl
 exact ⟨rfl, hk, rfl, bs, vs⟩
theorem zsy {s : Sto} (hs : OKS s) (lv : Int) : ∀ (l out : List Tm) (f : Int), (∀ t ∈ l, validB t = true → Fit f.toNat t) → (∀ t ∈ out, lfP t) → ∀ t ∈ (z2i s lv out l f).1, lfP t
 | [], out, f, _, ho => ho
 | t :: l, out, f, hl, ho => by
  rw [z2i]
  split
  · exact fun t h => nomatch h
  · rename_i he
    have ok := z3g hs (hl t List.mem_cons_self) (by simpa using he)
    split
    · exact fun t h => nomatch h
    · rename_i hb
      have hlb : z3s (FullV s f t).1 = true := by
       rw [z66] at hb
       simp only [Bool.or_eq_true, not_or, Bool.not_eq_true', Bool.not_eq_false] at hb
       exact hb.1.1
      exact zsy hs lv l _ _ (fun u hu hv => (hl u (List.mem_cons_of_mem _ hu) hv).mono (by have := ok.2.2.2.2.2; omega)) (fun u hu => by
       rcases List.mem_append.1 hu with hu | hu
       · exact ho u hu
       · simp at hu; subst hu; exact leafF_P ok.2.1 ok.2.2.1 hlb)
theorem z40 {s : Sto} (hs : OKS s) (x : Int) (l : List Tm) (f : Int) (hl : ∀ t ∈ l, validB t = true → Fit f.toNat t) : (∀ t ∈ (z0o s x l f).1, lfP t) ∧ (0 ≤ f → (z0o s x l f).2.2 = 0 → 0 ≤ (z0o s x l f).2.1 ∧ ((z0o s x l f).1.length : Int) + (z0o s x l f).2.1 ≤ f ∧ inB s.V x = true) ∧ ((z0o s x l f).2.2 ≠ 0 → (z0o s x l f).1 = []) := by
 unfold z0o
 split
 · exact ⟨(fun t h => by cases h), (fun _ h => by cases h), fun _ => rfl⟩
 · rename_i hc
   refine ⟨zsy hs _ l [] f hl (fun t h => nomatch h), fun h0 he => ?_, fun he => ?_⟩
   · have := zia (s := s) (infOf s.V x).lv l [] f h0 he
     simp only [List.length_nil] at this
     refine ⟨this.1, by omega, ?_⟩
     simp only [Bool.or_eq_true, not_or, Bool.not_eq_true', Bool.not_eq_false] at hc
     exact hc.1
   · have key : ∀ (l out : List Tm) (f : Int), (z2i s (infOf s.V x).lv out l f).2.2 ≠ 0 → (z2i s (infOf s.V x).lv out l f).1 = [] := by
      intro l
      induction l with
      | nil => exact fun out f h => absurd rfl h
      | cons t l ih =>
       intro out f h
       rw [z2i] at h ⊢
       split
       · rfl
       · rename_i h1
         rw [if_neg h1] at h
         split
         · rfl
         · rename_i h2; rw [if_neg h2] at h; exact ih _ _ h
     exact key l [] f he
theorem z5z {s : Sto} (hs : OKS s) {f : Int} {t : Tm} (h0 : 0 ≤ f) (hf : validB t = true → Fit f.toNat t) (he : (z1l s f t).2.2 = 0) : validB (z1l s f t).1 = true ∧ Fit (z1l s f t).2.1.toNat (z1l s f t).1 ∧ 0 ≤ (z1l s f t).2.1 ∧ (z1l s f t).2.1 ≤ f := by
 unfold z1l at he ⊢
 split at he
 · rename_i hv
   rw [if_pos hv]
   have hq := z50 hs hv (hf hv)
   split at he
   · rename_i h1
     rw [if_pos h1]
     obtain ⟨hu, hq⟩ := hq
     rcases hq with ⟨_, a, b, _⟩ | ⟨h80, _⟩
     · refine ⟨a, ?_, by simp only; omega, by simp only; omega⟩
       have : (f - ((runH s f.toNat t).2.2 : Int)).toNat = f.toNat - (runH s f.toNat t).2.2 := by omega
       simp only [this]; exact b
     · rw [h80] at h1; cases h1
   · rename_i h1; exact absurd he h1
 · cases he
theorem zb5 : ∀ (n : Nat) (f : Tm), (z3w n f).sz = n + f.sz
 | 0, f => by rw [z3w]; omega
 | n + 1, f => by
  rw [z3w, zb5 n]
  simp only [Tm.sz, Tm.szs, List.length_nil]; omega
theorem zgf {M : Int} : ∀ (n : Nat) {t : Tm}, bd M t → bd M (z3w n t)
 | 0, _, h => h
 | n + 1, t, h => by
  rw [z3w]
  exact zgf n ⟨fun e => absurd e (by decide), h, trivial⟩
def LP (L : List Tm) : Prop := L.length ≤ 900 ∧ ∀ t ∈ L, t.sz = 1
theorem zgu : ∀ {l : List Tm}, (∀ t ∈ l, t.sz = 1) → Tm.szs l = l.length
 | [], _ => rfl
 | t :: l, h => by rw [Tm.szs, h t List.mem_cons_self, zgu fun u hu => h u (List.mem_cons_of_mem _ hu), List.length_cons]; omega
theorem bnd_P {n : Int} (h0 : 0 ≤ n) (h1 : n ≤ 2199023255552) : (bV3 n).sz = 1 ∧ bd 2199023255552 (bV3 n) := by
 refine ⟨rfl, fun _ => ⟨?_, ?_⟩, trivial⟩
 · show -2199023255552 ≤ n; omega
 · show n ≤ 2199023255552; omega
theorem imgs_P (lv : Int) (L : List Tm) (k : Int) (m : Nat) (hm : m ≤ 100000) : ∀ (l : List Tm) (i : Nat) (a : List Tm × List Tm), i + l.length ≤ m → (∀ t ∈ a.1, t.sz = 1 ∧ bd 2199023255552 t) → ∀ t ∈ (imgs lv L k m l i a).1, t.sz = 1 ∧ bd 2199023255552 t
 | [], _, _, _, h => h
 | t :: l, i, a, hi, h => by
  rw [imgs]
  simp only [List.length_cons] at hi
  refine imgs_P lv L k m hm l (i + 1) _ (by omega) ?_
  split
  · intro u hu
    rcases List.mem_append.1 hu with hu | hu
    · exact h u hu
    · simp at hu; subst hu; exact bnd_P (by omega) (by omega)
  · exact h
theorem one_bd {t : Tm} {M : Int} (h : t.sz = 1) (hk : t.k = 1) : t.sz = 1 ∧ bd M t := by
 refine ⟨h, ?_⟩
 obtain ⟨k, s, n, l⟩ := t
 have hk : k = 1 := hk
 have hl : l = [] := by
  cases l with
  | nil => rfl
  | cons a b =>
   have := a.sz_pos
   simp only [Tm.sz, Tm.szs] at h; omega
 subst hl
 exact ⟨fun q => by omega, trivial⟩
theorem zri (c : Bool) (lvy k : Int) (n : Nat) : ∀ (l : List Tm) (i : Nat) (a : List Tm × List Tm), (∀ t ∈ l, t.sz = 1) → (∀ t ∈ a.1, t.sz = 1 ∧ bd 2199023255552 t) → ∀ t ∈ (z4b c lvy k n l i a).1, t.sz = 1 ∧ bd 2199023255552 t
 | [], _, _, _, h => h
 | t :: l, i, a, hl, h => by
  rw [z4b]
  refine zri c lvy k n l (i + 1) _ (fun u hu => hl u (List.mem_cons_of_mem _ hu)) ?_
  split
  · rename_i hq
    simp only [Bool.and_eq_true, beq_iff_eq] at hq
    intro u hu
    rcases List.mem_append.1 hu with hu | hu
    · exact h u hu
    · simp at hu; subst hu; exact one_bd (hl _ List.mem_cons_self) hq.2.1
  · exact h
theorem onF_P {L : List Tm} (hL : LP L) (lv lvy k : Int) (ls : List Tm) (hls : ls.length ≤ 900) : (onF lv lvy L k ls).1.length ≤ 1800 ∧ (onF lv lvy L k ls).1.length = (onF lv lvy L k ls).2.length ∧ ∀ t ∈ (onF lv lvy L k ls).1, t.sz = 1 ∧ bd 2199023255552 t := by
 have il := z8t lv L k ls.length ls 0 ([], []) rfl
 have ml := z6w (decide (lvy > lv)) lvy k L.length L 0 _ il.1
 have h1 := hL.1
 simp only [List.length_nil, Nat.zero_add] at il ml
 refine ⟨?_, ml.1, zri _ _ _ _ L 0 _ hL.2 (imgs_P lv L k ls.length (by omega) ls 0 ([], []) (by omega) (fun t h => nomatch h))⟩
 have := ml.2
 unfold onF
 omega
theorem zvf {s : Sto} {m : Nat} {on : List Tm} (hV : s.V.length ≤ 1073741824) (hm : m ≤ 900) (ho : on.length ≤ 1800) (h : ∀ t ∈ on, t.sz = 1 ∧ bd 2199023255552 t) : (z79 s m on).sz ≤ 40000 ∧ bd 2199023255552 (z79 s m on) := by
 have h1 := z2m (.mk 4 [] (s.V.length : Int) []) on
 have h2 := zgu fun t ht => (h t ht).1
 have h3 : (Tm.mk 4 [] (s.V.length : Int) []).sz = 1 := rfl
 refine ⟨by rw [z79, zb5]; omega, zgf _ (z2n ⟨fun _ => ⟨?_, ?_⟩, trivial⟩ (z63 fun t ht => (h t ht).2))⟩
 · show -2199023255552 ≤ ((s.V.length : Nat) : Int); omega
 · show ((s.V.length : Nat) : Int) ≤ 2199023255552; omega
structure GI (C : Nat) (q : IS) : Prop where
 ok : OKS q.s
 V : q.s.V.length + q.f.toNat ≤ C
 T : q.s.T.length + q.f.toNat ≤ C
 f0 : -9223372036854775808 ≤ q.f
 f1 : q.f ≤ 900
theorem GI.fail {C : Nat} {q : IS} (h : GI C q) (e : Int) : GI C (z2f q e) := by
 unfold z2f
 split
 · exact ⟨h.ok, h.V, h.T, h.f0, h.f1⟩
 · exact h
theorem z6k (q : IS) (e : Int) : (z2f q e).f = q.f := by unfold z2f; split <;> rfl
theorem GI.less {C : Nat} {q : IS} (h : GI C q) {f : Int} (h0 : 0 ≤ f) (h1 : f ≤ q.f) : GI C ⟨q.s, f, q.e⟩ := ⟨h.ok, by have := h.V; simp only; omega, by have := h.T; simp only; omega, by simp only; omega, by have := h.f1; simp only; omega⟩
theorem zai (s : Sto) (lv : Int) : (freshS s lv).V.length = s.V.length + 1 ∧ (freshS s lv).T = s.T := by
 constructor
 · simp [freshS]
 · rfl
theorem zh2 (s : Sto) (x : Int) (t : Tm) : (bindS s x t).T.length ≤ s.T.length + 1 := by
 by_cases q : z3z s x t = true
 · rw [(z25 q).1]; simp
 · rw [(z49 (by simpa using q)).1]; omega
theorem OKS.hang {s : Sto} (h : OKS s) (y lv : Int) {m : Nat} {on : List Tm} (hp : (z79 s m on).sz ≤ 40000 ∧ bd 2199023255552 (z79 s m on)) : OKS (z7o s y lv m on) := by
 refine OKS.bindA (fun i hi hb => ?_) hp.1 hp.2
 rcases List.mem_append.1 hi with hi | hi
 · exact h i hi hb
 · simp at hi; subst hi; cases hb
theorem zkd (lv : Int) (L : List Tm) (q : IS) (y k : Int) (ls : List Tm) (f : Int) : (z57 lv L q y k ls f).2.f = f := by unfold z57; split <;> rfl
theorem gi_flexG {C : Nat} (hC : C ≤ 1073741824) {L : List Tm} (hL : LP L) {lv : Int} {q : IS} (h : GI C q) (y k : Int) (ls : List Tm) {f : Int} (h0 : 0 ≤ f) (h1 : f ≤ q.f) (hV : q.s.V.length + f.toNat + 1 ≤ C) (hT : q.s.T.length + f.toNat + 1 ≤ C) (hls : ls.length ≤ 900) : GI C (z57 lv L q y k ls f).2 := by
 have hf1 := h.f1
 unfold z57
 split
 · exact h.less h0 h1
 · have o := onF_P hL lv (infOf q.s.V y).lv k ls hls
   have hp := zvf (s := q.s) (m := ls.length) (by omega) hls o.1 o.2.2
   have e1 := zai q.s (z1f [lv, (infOf q.s.V y).lv])
   refine ⟨h.ok.hang y _ hp, ?_, ?_, by simp only; omega, by simp only; omega⟩
   · show (z7o _ _ _ _ _).V.length + f.toNat ≤ C
     rw [z7o, z1y, e1.1]; omega
   · show (z7o _ _ _ _ _).T.length + f.toNat ≤ C
     have := zh2 (freshS q.s (z1f [lv, (infOf q.s.V y).lv])) y (z79 q.s ls.length (onF lv (infOf q.s.V y).lv L k ls).1)
     rw [e1.2] at this
     rw [z7o]; omega
theorem gi_flexF {C : Nat} (hC : C ≤ 1073741824) {L : List Tm} (hL : LP L) {lv : Int} {q : IS} (h : GI C q) (h0 : 0 ≤ q.f) (hV : q.s.V.length + q.f.toNat + 1 ≤ C) (hT : q.s.T.length + q.f.toNat + 1 ≤ C) (y : Int) (l : List Tm) (k : Int) (hl : ∀ t ∈ l, validB t = true → Fit q.f.toNat t) :
  GI C (z2s lv L q y l k).2 ∧ (z2s lv L q y l k).2.f ≤ q.f ∧ 0 ≤ (z2s lv L q y l k).2.f := by
 have ha := z40 h.ok y l q.f hl
 unfold z2s
 split
 · exact ⟨h.fail _, by rw [z6k]; exact Int.le_refl _, by rw [z6k]; exact h0⟩
 · rename_i he
   have ha2 := ha.2.1 h0 (by simpa using he)
   have hf1 := h.f1
   exact ⟨gi_flexG hC hL h y k _ ha2.1 (by omega) (by omega) (by omega) (by omega), by rw [zkd]; omega, by rw [zkd]; exact ha2.1⟩
theorem lfP_n {t : Tm} (hb : bd M61 t) (hk : t.k = 3) : -4611686018427387904 ≤ t.n ∧ t.n ≤ 4611686018427387904 := by
 obtain ⟨k, s, n, l⟩ := t
 have hk : k = 3 := hk
 have := hb.1 hk
 simp only [M61] at this
 exact ⟨by show -4611686018427387904 ≤ n; omega, by show n ≤ 4611686018427387904; omega⟩
theorem zoe {C : Nat} (hC : C ≤ 1073741824) {L : List Tm} (hL : LP L) (x : Int) {lv : Int} {q : IS} (h : GI C q) (h0 : 0 ≤ q.f) (hV : q.s.V.length + q.f.toNat + 1 ≤ C) (hT : q.s.T.length + q.f.toNat + 1 ≤ C) (y : Int) (l : List Tm) (k : Int) (hlen : l.length ≤ 1000000000) (hl : ∀ t ∈ l, t.sz ≤ B ∧ (validB t = true → Fit q.f.toNat t)) (hk0 : 0 ≤ k) (hk1 : k ≤ 1099511627776) :
  AC Tryz.prog 93 [aIV, ci y, aL l, ci k] (oIs x lv L q.f q.e q.s) (aT (z2s lv L q y l k).1) (oIt x lv L (z2s lv L q y l k).2.f (z2s lv L q y l k).2.e (z2s lv L q y l k).2.s) := by
 have ha := z40 h.ok y l q.f (fun t ht => (hl t ht).2)
 have hf1 := h.f1
 have hL1 := hL.1
 have hls : (z0o q.s y l q.f).1.length ≤ 900 := by
  by_cases he : (z0o q.s y l q.f).2.2 = 0
  · have := ha.2.1 h0 he; omega
  · rw [ha.2.2 he]; simp
 refine c_iflex x lv L q y l k (by omega) hk0 hk1 (zu6 q.s h.ok y q.f l (by omega) (by omega) hl) (by omega) (fun t ht => ?_) (fun _ => ?_)
 · exact zn6 x lv L _ _ _ t k (by omega) (lfP_n (ha.1 t ht).2.2.2.1) hk0 hk1
 · have o := onF_P hL lv (infOf q.s.V y).lv k (z0o q.s y l q.f).1 hls
   have hp := zvf (s := q.s) (m := (z0o q.s y l q.f).1.length) (by omega) hls o.1 o.2.2
   exact c_hang q.s y _ _ _ (by omega) (by omega) (by omega) (by omega) (by have := hp.1; simp only [B]; omega) (z5d (by simp only [M61]; omega) _ hp.2)
end Go.AM

set_option maxRecDepth 100000
open Go Go.Proofs
namespace Go.AM
def z1i (tm : IS → Tm → Tm × IS) : List Tm → IS → List Tm × IS
 | [], q => ([], q)
 | t :: l, q => ((tm q t).1 :: (z1i tm l (tm q t).2).1, (z1i tm l (tm q t).2).2)
def zd1 (lv : Int) (L : List Tm) (tm : IS → Tm → Tm × IS) (q : IS) (h : Tm) (l : List Tm) (k : Int) : Tm × IS :=
 if (h.k = 3 ∨ h.k = 1) ∧ (imgT lv L h k).2 = false then (noT, z2f q 170)
 else (applyF (if h.k = 3 ∨ h.k = 1 then (imgT lv L h k).1 else h) (z1i tm l q).1, (z1i tm l q).2)
def z4r (x lv : Int) (L : List Tm) (tm : IS → Tm → Int → Tm × IS) (q : IS) (h : Tm × List Tm) (k : Int) : Tm × IS :=
 if h.1.k = 5 then (z3w 1 (tm q (hd h.1.l) (k + 1)).1, (tm q (hd h.1.l) (k + 1)).2)
 else if h.1.k = 4 then (if h.1.n = x then (noT, z2f q 170) else z2s lv L q h.1.n h.2 k)
 else zd1 lv L (fun q t => tm q t k) q h.1 h.2 k
def zdo (x lv : Int) (L : List Tm) (tm : IS → Tm → Int → Tm × IS) (q : IS) (z : Tm × Int × Int) (k : Int) : Tm × IS :=
 if z.2.2 ≠ 0 then (noT, z2f q z.2.2) else z4r x lv L tm ⟨q.s, z.2.1, q.e⟩ (z03 z.1) k
def z0c (x lv : Int) (L : List Tm) : Nat → IS → Tm → Int → Tm × IS
 | 0, q, _, _ => if q.e ≠ 0 then (noT, q) else (noT, z2f q 80)
 | D + 1, q, t, k => if q.e ≠ 0 then (noT, q) else if q.f ≤ 0 then (noT, z2f q 80) else zdo x lv L (z0c x lv L D) q (z1l q.s (q.f - 1) t) k
theorem zjx (x lv : Int) (L : List Tm) (D : Nat) {q : IS} (t : Tm) (k : Int) (h : q.e ≠ 0) : z0c x lv L D q t k = (noT, q) := by
 cases D with
 | zero => rw [z0c, if_pos h]
 | succ D => rw [z0c, if_pos h]
theorem zay {z : Tm} {F : Nat} (hv : validB z = true) (hf : Fit F z) : (validB (z03 z).1 = true ∧ Fit F (z03 z).1) ∧ (∀ t ∈ (z03 z).2, t.sz ≤ SZ ∧ (validB t = true → Fit F t)) ∧ (z03 z).2.length ≤ SZ ∧ ∀ u ∈ (z03 z).1.l, u.sz ≤ SZ ∧ (validB u = true → Fit F u) := by
 have hsz := hf.sz
 have hlen := Tm.szs_length z.l
 have hse := z.sz_eq
 have kids : ∀ w : Tm, Fit F w → ∀ u ∈ w.l, u.sz ≤ SZ ∧ (validB u = true → Fit F u) := fun w hw u hu => ⟨(hw.kid hu).sz, fun _ => hw.kid hu⟩
 unfold z03
 split
 · rename_i h6
   obtain ⟨k, s, n, l⟩ := z
   have h6k : k = 6 := h6.1
   obtain ⟨x, y, r, rfl, hx6, _⟩ := okB6 (z02 _ hv) h6k
   have hx := z06 hv (.inr h6k) x List.mem_cons_self
   have hfx : Fit F x := hf.kid (show x ∈ Tm.l (.mk k s n (x :: y :: r)) from List.mem_cons_self)
   refine ⟨⟨hx, hfx⟩, fun t ht => kids _ hf t (List.mem_of_mem_drop ht), ?_, fun u hu => kids x hfx u hu⟩
   simp only [Tm.l, List.length_cons, List.length_drop] at hlen hse ⊢
   omega
 · exact ⟨⟨hv, hf⟩, (fun t h => nomatch h), Nat.zero_le _, fun u hu => kids z hf u hu⟩
section
variable {C : Nat} (hC : C ≤ 1073741824) {L : List Tm} (hL : LP L) (x lv : Int)
include hC hL
omit hC hL in
theorem zrp {tm : IS → Tm → Tm × IS} {f0 : Int} (htm : ∀ q t, GI C q → 0 ≤ q.f → q.f ≤ f0 → (q.e = 0 → validB t = true → Fit q.f.toNat t) → GI C (tm q t).2 ∧ (tm q t).2.f ≤ q.f ∧ 0 ≤ (tm q t).2.f) :
  ∀ (l : List Tm) (q : IS), GI C q → 0 ≤ q.f → q.f ≤ f0 → (∀ t ∈ l, validB t = true → Fit q.f.toNat t) → GI C (z1i tm l q).2 ∧ (z1i tm l q).2.f ≤ q.f ∧ 0 ≤ (z1i tm l q).2.f
 | [], q, h, h0, _, _ => ⟨h, Int.le_refl _, h0⟩
 | t :: l, q, h, h0, h1, hl => by
  have a := htm q t h h0 h1 (fun _ => hl t List.mem_cons_self)
  have b := zrp htm l (tm q t).2 a.1 a.2.2 (by omega) (fun u hu hv => (hl u (List.mem_cons_of_mem _ hu) hv).mono (by omega))
  exact ⟨b.1, by show (z1i tm l (tm q t).2).2.f ≤ q.f; omega, b.2.2⟩
theorem z6n : ∀ (D : Nat) (q : IS) (t : Tm) (k : Int), GI C q → 0 ≤ q.f → (q.e = 0 → validB t = true → Fit q.f.toNat t) → GI C (z0c x lv L D q t k).2 ∧ (z0c x lv L D q t k).2.f ≤ q.f ∧ 0 ≤ (z0c x lv L D q t k).2.f
 | 0, q, t, k, h, h0, _ => by
  rw [z0c]
  split
  · exact ⟨h, Int.le_refl _, h0⟩
  · exact ⟨h.fail _, by rw [z6k]; exact Int.le_refl _, by rw [z6k]; exact h0⟩
 | D + 1, q, t, k, h, h0, hf => by
  rw [z0c]
  have hfl : ∀ e, GI C (z2f q e) ∧ (z2f q e).f ≤ q.f ∧ 0 ≤ (z2f q e).f := fun e => ⟨h.fail _, by rw [z6k]; exact Int.le_refl _, by rw [z6k]; exact h0⟩
  split
  · exact ⟨h, Int.le_refl _, h0⟩
  · rename_i he
    have he : q.e = 0 := by simpa using he
    split
    · exact hfl _
    · rename_i hf0
      have hV := h.V
      have hT := h.T
      have hfit : validB t = true → Fit (q.f - 1).toNat t := fun hv => (hf he hv).mono (by omega)
      unfold zdo
      split
      · exact hfl _
      · rename_i hz
        have ok := z5z h.ok (by omega) hfit (by simpa using hz)
        generalize z1l q.s (q.f - 1) t = z at *
        obtain ⟨z1, z2, z3⟩ := z
        simp only at ok ⊢
        obtain ⟨hv, hfz, hz0, hz1⟩ := ok
        have sp := zay hv hfz
        have g : GI C ⟨q.s, z2, q.e⟩ := h.less hz0 (by omega)
        have hfl : ∀ e, GI C (z2f ⟨q.s, z2, q.e⟩ e) ∧ (z2f ⟨q.s, z2, q.e⟩ e).f ≤ q.f ∧ 0 ≤ (z2f ⟨q.s, z2, q.e⟩ e).f := fun e => ⟨g.fail _, by rw [z6k]; simp only; omega, by rw [z6k]; exact hz0⟩
        have ih := fun q' t' k' => z6n D q' t' k'
        unfold z4r
        split
        · rename_i h5
          have hne : (z03 z1).1.l ≠ [] := fun e => by
           have o := z02 _ sp.1.1
           generalize (z03 z1).1 = w at *
           obtain ⟨wk, ws, wn, wl⟩ := w
           obtain ⟨u, hu, _⟩ := okB5 o h5
           rw [hu] at e; cases e
          have hm : hd (z03 z1).1.l ∈ (z03 z1).1.l := by
           cases hl : (z03 z1).1.l with
           | nil => exact absurd hl hne
           | cons a b => exact List.mem_cons_self
          have := ih ⟨q.s, z2, q.e⟩ (hd (z03 z1).1.l) (k + 1) g hz0 (fun _ hv => (sp.2.2.2 _ hm).2 hv)
          simp only at this
          exact ⟨this.1, by simp only; omega, this.2.2⟩
        · split
          · split
            · exact hfl _
            · have := gi_flexF hC hL (lv := lv) g hz0 (by simp only; omega) (by simp only; omega) (z03 z1).1.n (z03 z1).2 k (fun t ht => (sp.2.1 t ht).2)
              simp only at this
              exact ⟨this.1, by omega, this.2.2⟩
          · unfold zd1
            split
            · exact hfl _
            · have := zrp (tm := fun q t => z0c x lv L D q t k) (f0 := z2) (fun q' t' a b _ d => ih q' t' k a b d) (z03 z1).2 ⟨q.s, z2, q.e⟩ g hz0 (Int.le_refl _) (fun t ht => (sp.2.1 t ht).2)
              simp only at this
              exact ⟨this.1, by simp only; omega, this.2.2⟩
end
end Go.AM

set_option maxRecDepth 100000
open Go Go.Proofs
namespace Go.AM
abbrev tmH (x lv : Int) (L : List Tm) (q : IS) (h : Tm) : AHeap := [(0, oIV x lv L q.f q.e), (1, sto2 4 5 q.s), (2, .gone), (3, .gone), (4, .arz 6 (SR q.s.V)), (5, .arz 1 (IR q.s.T)), (6, .arr 4 [zT]), (7, .arr 4 [cT h])]
section
variable {C : Nat} (hC : C ≤ 1073741824) {L : List Tm} (hL : LP L) (x lv : Int)
theorem zng {tm : IS → Tm → Tm × IS} {f0 k : Int} (h : Tm) (n : Nat) (hn : n ≤ 1000000000) (hhl : h.l.length ≤ 1000000000)
  (htm : ∀ q t, GI C q → 0 ≤ q.f → q.f ≤ f0 → (q.e = 0 → validB t = true → Fit q.f.toNat t) → GI C (tm q t).2 ∧ (tm q t).2.f ≤ q.f ∧ 0 ≤ (tm q t).2.f)
  (hk : ∀ q t, GI C q → 0 ≤ q.f → q.f ≤ f0 → t.sz ≤ B → (q.e = 0 → validB t = true → Fit q.f.toNat t) → AC Tryz.prog 63 [aIV, aT t, ci k] (oIs x lv L q.f q.e q.s) (aT (tm q t).1) (oIt x lv L (tm q t).2.f (tm q t).2.e (tm q t).2.s)) :
  ∀ (b a : List Tm) (q : IS), a.length + b.length = n → GI C q → 0 ≤ q.f → q.f ≤ f0 → (∀ t ∈ b, t.sz ≤ B ∧ (validB t = true → Fit q.f.toNat t)) →
  RPt Tryz.prog 63 4 (aT (applyF h (a ++ (z1i tm b q).1))) (oIt x lv L (z1i tm b q).2.f (z1i tm b q).2.e (z1i tm b q).2.s) 3
   ⟨[(0, aIV), (2, ci k), (6, .c (.a (.ep 6 4 0 0))), (9, .c (.a (.ep 7 4 0 0))), (10, .c (.a (.osl 8 4 0 n))), (102, .c (.a (.osl 8 4 0 n))), (103, ci (n : Int)), (104, ci (a.length : Int))], tmH x lv L q h ++ [(8, .arz 4 (FTs (a ++ b)))], 9⟩
 | [], a, q, hl, _, _, _, _ => by
  rw [List.length_nil, Nat.add_zero] at hl
  rw [List.append_nil, show (z1i tm [] q).1 = [] from rfl, List.append_nil, show (z1i tm [] q).2 = q from rfl]
  have ha := z3t h a (by omega)
  obtain ⟨hk', hs, hn', hl'⟩ := h
  refine RPt.vc hP sh lv63 (Eq.mpr (v63_3b ..) ?_)
  refine z00 (fun h => absurd (of_decide_eq_true h) (by omega)) (fun _ => ⟨⟨rfl, by rw [z01]; omega⟩, _, ?_, .refl _, rfl⟩)
  rw [List.drop_zero, List.take_of_length_le (by rw [z01]; omega)]
  exact ha
 | t :: b, a, q, hl, hg, h0, h1, hb => by
  have hlen : (a ++ t :: b).length = n := by simp only [List.length_append, List.length_cons] at hl ⊢; omega
  have h3 := ltI' a t b
  have hbt := hb t List.mem_cons_self
  have ht := htm q t hg h0 h1 (fun _ => hbt.2)
  have hc := hk q t hg h0 h1 hbt.1 (fun _ => hbt.2)
  have next := zng h n hn hhl htm hk b (a ++ [(tm q t).1]) (tm q t).2 (by simp only [List.length_append, List.length_cons, List.length_nil] at hl ⊢; omega) ht.1 ht.2.2 (by omega) (fun u hu => ⟨(hb u (List.mem_cons_of_mem _ hu)).1, fun hv => ((hb u (List.mem_cons_of_mem _ hu)).2 hv).mono (by omega)⟩)
  have eK : z1i tm (t :: b) q = ((tm q t).1 :: (z1i tm b (tm q t).2).1, (z1i tm b (tm q t).2).2) := rfl
  rw [eK]
  simp only
  rw [List.append_assoc, show [(tm q t).1] ++ (z1i tm b (tm q t).2).1 = (tm q t).1 :: (z1i tm b (tm q t).2).1 from rfl, ap, nx] at next
  simp only [List.length_cons] at hl
  have em := z4x a t b
  have hsz : (0 + Int.toNat (a.length : Int)) < (FTs (a ++ t :: b)).length := by omega
  obtain ⟨hk', hs, hn', hl'⟩ := h
  refine RPt.vc hP sh lv63 (Eq.mpr (v63_3b ..) ?_)
  rw [w64 (x := (a.length : Int) + 1) (by omega) (by omega)]
  refine z00 (fun _ => ⟨by omega, ⟨hsz, by rw [Nat.zero_add, em, midI, List.drop_zero, List.take_of_length_le (by rw [z2k]; exact Nat.le_refl _)], rfl⟩, ((tm q t).1, (tm q t).2.s, x, lv, L, (tm q t).2.f, (tm q t).2.e), ?_, by omega, ⟨hsz, by rw [Nat.zero_add, midI]; exact z2k t⟩, ?_⟩) (fun h => absurd (of_decide_eq_false h) (by omega))
  · rw [Nat.zero_add, z65]; exact hc
  · rw [zsb]; exact next
omit hC hL
abbrev FAILP (x lv : Int) (L : List Tm) (q : IS) (er : Int) (r : TV) (Hs' : List AObj) : Prop :=
 ∃ z : Int × Int × List Tm × Int × Int, AC Tryz.prog 90 [aIV, ci er] (oIs x lv L q.f q.e q.s) (.agg [.a (.fz (.int .i64 0)), .a (.fz (.str [])), .a (.fz (.int .i64 0)), .a (.fz (.sl false 4 []))]) (oIs z.1 z.2.1 z.2.2.1 z.2.2.2.1 z.2.2.2.2 q.s) ∧
  TV.Le (.agg [.a (.fz (.int .i64 0)), .a (.fz (.str [])), .a (.fz (.int .i64 0)), .a (.fz (.sl false 4 []))]) r ∧ oIt z.1 z.2.1 z.2.2.1 z.2.2.2.1 z.2.2.2.2 q.s = Hs'
theorem zi4 (q : IS) (er : Int) : FAILP x lv L q er (aT noT) (oIt x lv L (z2f q er).f (z2f q er).e (z2f q er).s) := by
 have hf := zsn x lv L q.f q.e er q.s
 refine ⟨(x, lv, L, q.f, if q.e = 0 then er else q.e), hf, .refl _, ?_⟩
 unfold z2f
 split <;> rfl
abbrev IMGP (x lv : Int) (L : List Tm) (q : IS) (h : Tm) (k : Int) (r : TV) (Hs' : List AObj) (R : Tm → Prop) : Prop :=
 ∃ z : Tm × Bool, AC Tryz.prog 94 [aIV, aT h, ci k] (oIs x lv L q.f q.e q.s) (zgl z.1 z.2) (oIs x lv L q.f q.e q.s) ∧ br (!z.2) (FAILP x lv L q 170 r Hs') (R z.1)
abbrev TREE (x lv : Int) (L : List Tm) (q : IS) (h : Tm) (k : Int) (r : TV) (Hs' : List AObj) (F : Prop) (R : Tm → Prop) : Prop :=
 br (h.k == 5) ((FV.isSl 4 (.sl false 4 (FTs h.l)) = true ∧ ((0 : Int) ≤ 0 ∧ ((0 : Int) < (((FTs h.l).length : Nat) : Int) ∧ (rE (List.getD (FTs h.l) 0 []) : List FV) = List.getD (FTs h.l) 0 []))) ∧
  ∃ z : Tm × Sto × Int × Int × List Tm × Int × Int, AC Tryz.prog 63 [aIV, aE (List.getD (FTs h.l) 0 []), ci (IntKind.wrap .i64 (k + 1))] (oIs x lv L q.f q.e q.s) (aT z.1) (oIt z.2.2.1 z.2.2.2.1 z.2.2.2.2.1 z.2.2.2.2.2.1 z.2.2.2.2.2.2 z.2.1) ∧
   ∃ z6 : Tm, AC Tryz.prog 45 [ci 1, aT z.1] [] (aT z6) [] ∧ TV.Le (aT z6) r ∧ oIt z.2.2.1 z.2.2.2.1 z.2.2.2.2.1 z.2.2.2.2.2.1 z.2.2.2.2.2.2 z.2.1 = Hs')
 (br (h.k == 4) (br (h.n == x) (FAILP x lv L q 170 r Hs') F) (br (h.k == 3) (IMGP x lv L q h k r Hs' R) (br (h.k == 1) (IMGP x lv L q h k r Hs' R) (R h))))
theorem imgT_l (lv : Int) (L : List Tm) (t : Tm) (k : Int) : (imgT lv L t k).1.l.length ≤ t.l.length := by
 unfold imgT
 split
 · exact Nat.le_refl _
 · split
   · exact Nat.zero_le _
   · exact Nat.le_refl _
theorem tree_p {C : Nat} {tm : IS → Tm → Int → Tm × IS} (hLl : L.length ≤ 100000) (q : IS) (h : Tm × List Tm) (k : Int) (hk0 : 0 ≤ k) (hk1 : k + 1 ≤ 1099511627776) (hv : validB h.1 = true) (hb : bd M61 h.1)
  (ht : h.1.k = 5 → AC Tryz.prog 63 [aIV, aT (hd h.1.l), ci (k + 1)] (oIs x lv L q.f q.e q.s) (aT (tm q (hd h.1.l) (k + 1)).1) (oIt x lv L (tm q (hd h.1.l) (k + 1)).2.f (tm q (hd h.1.l) (k + 1)).2.e (tm q (hd h.1.l) (k + 1)).2.s))
  (F : Prop) (R : Tm → Prop) (hF : h.1.k = 4 → h.1.n ≠ x → z4r x lv L tm q h k = z2s lv L q h.1.n h.2 k → F)
  (hR : ∀ h', h'.l.length ≤ h.1.l.length → z4r x lv L tm q h k = (applyF h' (z1i (fun q t => tm q t k) h.2 q).1, (z1i (fun q t => tm q t k) h.2 q).2) → R h') :
  TREE x lv L q h.1 k (aT (z4r x lv L tm q h k).1) (oIt x lv L (z4r x lv L tm q h k).2.f (z4r x lv L tm q h k).2.e (z4r x lv L tm q h k).2.s) F R := by
 have hT : z4r x lv L tm q h k = if h.1.k = 5 then (z3w 1 (tm q (hd h.1.l) (k + 1)).1, (tm q (hd h.1.l) (k + 1)).2)
  else if h.1.k = 4 then (if h.1.n = x then (noT, z2f q 170) else z2s lv L q h.1.n h.2 k) else zd1 lv L (fun q t => tm q t k) q h.1 h.2 k := rfl
 have hA : zd1 lv L (fun q t => tm q t k) q h.1 h.2 k = if (h.1.k = 3 ∨ h.1.k = 1) ∧ (imgT lv L h.1 k).2 = false then (noT, z2f q 170)
  else (applyF (if h.1.k = 3 ∨ h.1.k = 1 then (imgT lv L h.1 k).1 else h.1) (z1i (fun q t => tm q t k) h.2 q).1, (z1i (fun q t => tm q t k) h.2 q).2) := rfl
 have img : h.1.k ≠ 5 → h.1.k ≠ 4 → (h.1.k = 3 ∨ h.1.k = 1) → IMGP x lv L q h.1 k (aT (z4r x lv L tm q h k).1) (oIt x lv L (z4r x lv L tm q h k).2.f (z4r x lv L tm q h k).2.e (z4r x lv L tm q h k).2.s) R := fun h5 h4 h31 => by
  rw [if_neg h5, if_neg h4, hA] at hT
  have hi := zn6 x lv L q.f q.e q.s h.1 k hLl (lfP_n hb) hk0 (by omega)
  refine ⟨imgT lv L h.1 k, hi, z00 (fun c => ?_) (fun c => ?_)⟩
  · have c : (imgT lv L h.1 k).2 = false := by simpa using c
    rw [if_pos ⟨h31, c⟩] at hT
    rw [hT]
    exact zi4 x lv q 170
  · have c : (imgT lv L h.1 k).2 = true := by simpa using c
    rw [if_neg (fun e => by rw [c] at e; cases e.2), if_pos h31] at hT
    exact hR _ (imgT_l lv L h.1 k) hT
 refine z00 (fun h5 => ?_) (fun h5 => z00 (fun h4 => z00 (fun hx => ?_) (fun hx => ?_)) (fun h4 => z00 (fun h3 => ?_) (fun h3 => z00 (fun h1 => ?_) (fun h1 => ?_))))
 · have h5 : h.1.k = 5 := by simpa using h5
   rw [if_pos h5] at hT
   have ht := ht h5
   rw [hT]
   have hne : ∃ u l', h.1.l = u :: l' := by
    have o := z02 _ hv
    generalize h.1 = w at *
    obtain ⟨wk, ws, wn, wl⟩ := w
    obtain ⟨u, hu, _⟩ := okB5 o h5
    exact ⟨u, [], hu⟩
   obtain ⟨u, l', hul⟩ := hne
   rw [hul] at ht ⊢
   have hl := zmx 1 (tm q u (k + 1)).1 (by omega)
   refine ⟨⟨rfl, Int.le_refl _, ltI' [] u l', z4x [] u l'⟩, ((tm q u (k + 1)).1, (tm q u (k + 1)).2.s, x, lv, L, (tm q u (k + 1)).2.f, (tm q u (k + 1)).2.e), ?_, _, hl, .refl _, rfl⟩
   rw [show aE (List.getD (FTs (u :: l')) 0 []) = aT u from zdp u, w64 (x := k + 1) (by omega) (by omega)]
   exact ht
 · have h5 : h.1.k ≠ 5 := by simpa using h5
   have h4 : h.1.k = 4 := by simpa using h4
   have hx : h.1.n = x := by simpa using hx
   rw [if_neg h5, if_pos h4, if_pos hx] at hT
   rw [hT]
   exact zi4 x lv q 170
 · have h5 : h.1.k ≠ 5 := by simpa using h5
   have h4 : h.1.k = 4 := by simpa using h4
   have hx : h.1.n ≠ x := by simpa using hx
   rw [if_neg h5, if_pos h4, if_neg hx] at hT
   exact hF h4 hx hT
 · exact img (by simpa using h5) (by simpa using h4) (.inl (by simpa using h3))
 · exact img (by simpa using h5) (by simpa using h4) (.inr (by simpa using h1))
 · have h5 : h.1.k ≠ 5 := by simpa using h5
   have h4 : h.1.k ≠ 4 := by simpa using h4
   have h3 : h.1.k ≠ 3 := by simpa using h3
   have h1 : h.1.k ≠ 1 := by simpa using h1
   have hno : ¬ (h.1.k = 3 ∨ h.1.k = 1) := fun e => e.elim h3 h1
   rw [if_neg h5, if_neg h4, hA, if_neg (fun e => hno e.1), if_neg hno] at hT
   exact hR _ (Nat.le_refl _) hT
end
theorem zsa {C : Nat} (hC : C ≤ 1073741824) {L : List Tm} (hL : LP L) (x lv : Int) : ∀ (D : Nat) (q : IS) (t : Tm) (k : Int), q.f.toNat ≤ D → GI C q → 0 ≤ q.f → t.sz ≤ B → (q.e = 0 → validB t = true → Fit q.f.toNat t) → 0 ≤ k → k + q.f ≤ 549755813888 →
  AC Tryz.prog 63 [aIV, aT t, ci k] (oIs x lv L q.f q.e q.s) (aT (z0c x lv L D q t k).1) (oIt x lv L (z0c x lv L D q t k).2.f (z0c x lv L D q t k).2.e (z0c x lv L D q t k).2.s)
 | 0, q, t, k, hD, hg, h0, hz, hf, hk0, hk1 => by
  obtain ⟨tk, ts, tn, tl⟩ := t
  refine AC.vc hP sh lv63 (by simp) (by simp [isLive]) (by simp [isLive]) (Eq.mpr (v63 tk ts tn (FTs tl) k ..) ?_)
  rw [z0c]
  refine z00 (fun he => ?_) (fun he => z00 (fun hf0 => ?_) (fun hf0 => absurd (of_decide_eq_false hf0) (by omega)))
  · have he : q.e ≠ 0 := by have he : (q.e != 0) = true := he; simpa using he
    rw [if_pos he]; exact ⟨leT (l := []) z0r, rfl⟩
  · have he : q.e = 0 := by have he : (q.e != 0) = false := he; simpa using he
    rw [if_neg (by simp [he])]
    exact zi4 x lv q 80
 | D + 1, q, t, k, hD, hg, h0, hz, hf, hk0, hk1 => by
  have ih := fun q' t' k' => zsa hC hL x lv D q' t' k'
  have hL1 := hL.1
  have hf1 := hg.f1
  have hV := hg.V
  have hT := hg.T
  rw [z0c]
  by_cases he : q.e ≠ 0
  · rw [if_pos he]
    obtain ⟨tk, ts, tn, tl⟩ := t
    refine AC.vc hP sh lv63 (by simp) (by simp [isLive]) (by simp [isLive]) (Eq.mpr (v63 tk ts tn (FTs tl) k ..) ?_)
    exact z00 (fun _ => ⟨leT (l := []) z0r, rfl⟩) (fun h => absurd (by have h : (q.e != 0) = false := h; simpa using h) he)
  rw [if_neg he]
  have he : q.e = 0 := by simpa using he
  by_cases hf0 : q.f ≤ 0
  · rw [if_pos hf0]
    obtain ⟨tk, ts, tn, tl⟩ := t
    refine AC.vc hP sh lv63 (by simp) (by simp [isLive]) (by simp [isLive]) (Eq.mpr (v63 tk ts tn (FTs tl) k ..) ?_)
    exact z00 (fun h => absurd he (by have h : (q.e != 0) = true := h; simpa using h)) (fun _ => z00 (fun _ => zi4 x lv q 80) (fun h => absurd hf0 (of_decide_eq_false h)))
  rw [if_neg hf0]
  have hfit : validB t = true → Fit (q.f - 1).toNat t := fun hv => (hf he hv).mono (by omega)
  have hh := c_sHead q.s hg.ok (q.f - 1) t (by omega) hz hfit
  have ok := z5z hg.ok (t := t) (f := q.f - 1) (by omega) hfit
  have enter : ∀ (r : TV) (Hs' : List AObj), br ((z1l q.s (q.f - 1) t).2.2 != 0) (FAILP x lv L q (z1l q.s (q.f - 1) t).2.2 r Hs')
    ((∃ z4 : Tm, AC Tryz.prog 92 [aT (z1l q.s (q.f - 1) t).1] [] (.tup [(true, cT z4), (false, [.a (.fz .nils)])]) [] ∧ TREE x lv L ⟨q.s, (z1l q.s (q.f - 1) t).2.1, q.e⟩ z4 k r Hs'
      (∃ z8 : Tm × Sto × Int × Int × List Tm × Int × Int, AC Tryz.prog 93 [aIV, ci z4.n, .c (.a (.fz .nils)), ci k] (oIs x lv L (z1l q.s (q.f - 1) t).2.1 q.e q.s) (aT z8.1) (oIt z8.2.2.1 z8.2.2.2.1 z8.2.2.2.2.1 z8.2.2.2.2.2.1 z8.2.2.2.2.2.2 z8.2.1) ∧ TV.Le (aT z8.1) r ∧ oIt z8.2.2.1 z8.2.2.2.1 z8.2.2.2.2.1 z8.2.2.2.2.2.1 z8.2.2.2.2.2.2 z8.2.1 = Hs')
      (fun h' => FV.isSl 4 .nils = true ∧ RPt Tryz.prog 63 4 r Hs' 3 ⟨[(0, aIV), (2, ci k), (6, .c (.a (.ep 6 4 0 0))), (9, .c (.a (.ep 7 4 0 0))), (10, .c (.a (.fz .nils))), (102, .c (.a (.fz .nils))), (103, ci 0), (104, ci 0)], tmH x lv L ⟨q.s, (z1l q.s (q.f - 1) t).2.1, q.e⟩ h', 8⟩)) ∨
     (∃ z13 : Tm × List Tm, AC Tryz.prog 92 [aT (z1l q.s (q.f - 1) t).1] [] (.tup [(true, cT z13.1), (false, [.a (.osl 0 4 0 z13.2.length)])]) [.arz 4 (FTs z13.2)] ∧ TREE x lv L ⟨q.s, (z1l q.s (q.f - 1) t).2.1, q.e⟩ z13.1 k r Hs'
        (((4 : Nat) = 4 ∧ (0 + z13.2.length) ≤ (FTs z13.2).length) ∧ ∃ z8 : Tm × Sto × Int × Int × List Tm × Int × Int, AC Tryz.prog 93 [aIV, ci z13.1.n, .c (.a (.fz (.sl false 4 (List.take z13.2.length (List.drop 0 (FTs z13.2)))))), ci k] (oIs x lv L (z1l q.s (q.f - 1) t).2.1 q.e q.s) (aT z8.1) (oIt z8.2.2.1 z8.2.2.2.1 z8.2.2.2.2.1 z8.2.2.2.2.2.1 z8.2.2.2.2.2.2 z8.2.1) ∧ TV.Le (aT z8.1) r ∧ oIt z8.2.2.1 z8.2.2.2.1 z8.2.2.2.2.1 z8.2.2.2.2.2.1 z8.2.2.2.2.2.2 z8.2.1 = Hs')
        (fun h' => RPt Tryz.prog 63 4 r Hs' 3 ⟨[(0, aIV), (2, ci k), (6, .c (.a (.ep 6 4 0 0))), (9, .c (.a (.ep 7 4 0 0))), (10, .c (.a (.osl 8 4 0 z13.2.length))), (102, .c (.a (.osl 8 4 0 z13.2.length))), (103, ci (z13.2.length : Int)), (104, ci 0)], tmH x lv L ⟨q.s, (z1l q.s (q.f - 1) t).2.1, q.e⟩ h' ++ [(8, .arz 4 (FTs z13.2))], 9⟩))) →
    Hs'.length = 6 → (∀ o ∈ Hs'.drop 4, isLive o) → AC Tryz.prog 63 [aIV, aT t, ci k] (oIs x lv L q.f q.e q.s) r Hs' := fun r Hs' hb hl hlv => by
   obtain ⟨tk, ts, tn, tl⟩ := t
   refine AC.vc hP sh lv63 (by simp [hl]) (by simp [isLive]) hlv (Eq.mpr (v63 tk ts tn (FTs tl) k ..) ?_)
   rw [w64 (x := q.f - 1) (by omega) (by omega)]
   exact z00 (fun h => absurd he (by have h : (q.e != 0) = true := h; simpa using h)) (fun _ => z00 (fun h => absurd (of_decide_eq_true h) hf0) (fun _ => ⟨_, hh, hb⟩))
  refine enter _ _ ?_ rfl (by simp [isLive])
  have eH : ∀ z : Tm × Int × Int, zdo x lv L (z0c x lv L D) q z k = if z.2.2 ≠ 0 then (noT, z2f q z.2.2) else z4r x lv L (z0c x lv L D) ⟨q.s, z.2.1, q.e⟩ (z03 z.1) k := fun z => rfl
  rw [eH]
  clear enter hh
  generalize z1l q.s (q.f - 1) t = z at *
  obtain ⟨z1, z2, z3⟩ := z
  simp only at ok ⊢
  refine z00 (fun h3 => ?_) (fun h3 => ?_)
  · have h3 : z3 ≠ 0 := by have h3 : (z3 != 0) = true := h3; simpa using h3
    rw [if_pos h3]
    exact zi4 x lv q z3
  have h3 : z3 = 0 := by have h3 : (z3 != 0) = false := h3; simpa using h3
  subst h3
  rw [if_neg (by simp)]
  obtain ⟨hv, hfz, hz0, hz1⟩ := ok rfl
  have sp := zay hv hfz
  have g : GI C ⟨q.s, z2, q.e⟩ := hg.less hz0 (by omega)
  have hzs := hfz.sz
  have hkids := fun q' t' (a : GI C q') (b : 0 ≤ q'.f) (c : q'.f ≤ z2) (d : t'.sz ≤ B) e => ih q' t' k (by omega) a b d e hk0 (by omega)
  have htm := fun q' t' (a : GI C q') (b : 0 ≤ q'.f) (_ : q'.f ≤ z2) e => z6n hC hL x lv D q' t' k a b e
  have hlam : (z03 z1).1.k = 5 → AC Tryz.prog 63 [aIV, aT (hd (z03 z1).1.l), ci (k + 1)] (oIs x lv L z2 q.e q.s) (aT (z0c x lv L D ⟨q.s, z2, q.e⟩ (hd (z03 z1).1.l) (k + 1)).1) (oIt x lv L (z0c x lv L D ⟨q.s, z2, q.e⟩ (hd (z03 z1).1.l) (k + 1)).2.f (z0c x lv L D ⟨q.s, z2, q.e⟩ (hd (z03 z1).1.l) (k + 1)).2.e (z0c x lv L D ⟨q.s, z2, q.e⟩ (hd (z03 z1).1.l) (k + 1)).2.s) := fun h5 => by
   have hm : hd (z03 z1).1.l ∈ (z03 z1).1.l := by
    have o := z02 _ sp.1.1
    generalize (z03 z1).1 = w at *
    obtain ⟨wk, ws, wn, wl⟩ := w
    obtain ⟨u, hu, _⟩ := okB5 o h5
    have hu : wl = [u] := hu
    subst hu
    exact List.mem_cons_self
   have := sp.2.2.2 _ hm
   exact ih ⟨q.s, z2, q.e⟩ _ (k + 1) (by simp only; omega) g hz0 (by have := this.1; simp only [SZ, B] at *; omega) (fun _ => this.2) (by omega) (by simp only; omega)
  by_cases h6 : z1.k = 6 ∧ validB z1 = true
  · have esp : z03 z1 = (hd z1.l, z1.l.drop 1) := if_pos h6
    have hcs := zqq z1 (by simp only [SZ, B] at *; omega) h6.1 h6.2
    rw [esp] at sp hlam ⊢
    simp only at sp hlam
    refine .inr ⟨(hd z1.l, z1.l.drop 1), hcs, tree_p (C := C) x lv (by omega) ⟨q.s, z2, q.e⟩ (hd z1.l, z1.l.drop 1) k hk0 (by omega) sp.1.1 sp.1.2.bd hlam _ _ (fun h4 hx hs => ?_) (fun h' hle hs => ?_)⟩
    · rw [hs]
      have hc := zoe hC hL x (lv := lv) g hz0 (by simp only; omega) (by simp only; omega) (hd z1.l).n (z1.l.drop 1) k (by have := sp.2.2.1; simp only [SZ] at this; omega) (fun t ht => ⟨by have := (sp.2.1 t ht).1; simp only [SZ, B] at *; omega, (sp.2.1 t ht).2⟩) hk0 (by omega)
      refine ⟨⟨by trivial, by rw [z01]; omega⟩, ((z2s lv L ⟨q.s, z2, q.e⟩ (hd z1.l).n (z1.l.drop 1) k).1, (z2s lv L ⟨q.s, z2, q.e⟩ (hd z1.l).n (z1.l.drop 1) k).2.s, x, lv, L, (z2s lv L ⟨q.s, z2, q.e⟩ (hd z1.l).n (z1.l.drop 1) k).2.f, (z2s lv L ⟨q.s, z2, q.e⟩ (hd z1.l).n (z1.l.drop 1) k).2.e), ?_, .refl _, rfl⟩
      rw [List.drop_zero, List.take_of_length_le (by rw [z01]; exact Nat.le_refl _)]
      exact hc
    · rw [hs]
      have hh' : h'.l.length ≤ 1000000000 := by
       have h1 := sp.1.2.sz
       have h2 := (hd z1.l).sz_eq
       have h3 := Tm.szs_length (hd z1.l).l
       have hle : h'.l.length ≤ (hd z1.l).l.length := hle
       simp only [SZ] at h1; omega
      exact zng (C := C) x lv h' (z1.l.drop 1).length (by have := sp.2.2.1; simp only [SZ] at this; omega) hh' htm hkids (z1.l.drop 1) [] ⟨q.s, z2, q.e⟩ (by simp) g hz0 (Int.le_refl _) (fun t ht => ⟨by have := (sp.2.1 t ht).1; simp only [SZ, B] at *; omega, (sp.2.1 t ht).2⟩)
  · have esp : z03 z1 = (z1, []) := if_neg h6
    have hcs := zt6 z1 (by simp only [SZ, B] at *; omega) h6
    rw [esp] at sp hlam ⊢
    simp only at sp hlam
    refine .inl ⟨z1, hcs, tree_p (C := C) x lv (by omega) ⟨q.s, z2, q.e⟩ (z1, []) k hk0 (by omega) sp.1.1 sp.1.2.bd hlam _ _ (fun h4 hx hs => ?_) (fun h' hle hs => ?_)⟩
    · rw [hs]
      have hc := zoe hC hL x (lv := lv) g hz0 (by simp only; omega) (by simp only; omega) z1.n [] k (by simp) (fun t ht => nomatch ht) hk0 (by omega)
      exact ⟨((z2s lv L ⟨q.s, z2, q.e⟩ z1.n [] k).1, (z2s lv L ⟨q.s, z2, q.e⟩ z1.n [] k).2.s, x, lv, L, (z2s lv L ⟨q.s, z2, q.e⟩ z1.n [] k).2.f, (z2s lv L ⟨q.s, z2, q.e⟩ z1.n [] k).2.e), hc.args ⟨.refl _, .refl _, .c _ _ (.a _ _ (.fz _ _ z0r)), .refl _, trivial⟩, .refl _, rfl⟩
    · rw [hs]
      have hle : h'.l.length ≤ z1.l.length := hle
      have ha := z3t h' [] (by have h1 := sp.1.2.sz; have h2 := z1.sz_eq; have h3 := Tm.szs_length z1.l; simp only [SZ, List.length_nil] at *; omega)
      refine ⟨rfl, ?_⟩
      obtain ⟨hk', hs', hn', hl'⟩ := h'
      refine RPt.vc hP sh lv63 (Eq.mpr (v63_3a ..) ?_)
      exact z00 (fun h => by cases h) (fun _ => ⟨_, ha.args ⟨.refl _, .c _ _ (.a _ _ (.fz _ _ z0r)), trivial⟩, .refl _, rfl⟩)
end Go.AM

set_option maxRecDepth 100000
open Go Go.Proofs
namespace Go.AM
def z2b (t : Tm) : Bool := validB t && (t.k == 3 || t.k == 1)
theorem c_ileaf (t : Tm) (hz : t.sz ≤ B) : AC Tryz.prog 62 [aT t] [] (cb (z2b t)) [] := by
 have hv := z36 t hz
 have e : z2b t = (validB t && (t.k == 3 || t.k == 1)) := rfl
 rw [e]
 generalize validB t = v at *
 obtain ⟨k, s, n, l⟩ := t
 refine AC.vc hP sh lv62 (Nat.le_refl _) (by simp) (by simp) (Eq.mpr (v62 k s n (FTs l) ..) ?_)
 refine ⟨_, hv, z00 (fun h => z00 (fun h3 => ?_) (fun h3 => ?_)) (fun h => ?_)⟩
 · have h3 : (k == 3) = true := h3
   rw [h, show ((Tm.mk k s n l).k == 3) = true from h3]; exact z05 rfl
 · have h3 : (k == 3) = false := h3
   rw [h, show ((Tm.mk k s n l).k == 3) = false from h3]; exact z05 rfl
 · rw [h]; exact z05 rfl
theorem zs1 (t : Tm) (hz : t.sz ≤ B) : AC Tryz.prog 61 [aT t] [] (cb (!z2b t)) [] := by
 have h := c_ileaf t hz
 obtain ⟨k, s, n, l⟩ := t
 refine AC.vc hP sh lv61 (Nat.le_refl _) (by simp) (by simp) (Eq.mpr (v61 k s n (FTs l) ..) ?_)
 exact ⟨_, h, z05 rfl⟩
def invertF (s : Sto) (x : Int) (l : List Tm) (t : Tm) (f : Int) : (Tm × Int × Int) × Sto :=
 if (!inB s.V x || (infOf s.V x).bd || !validB t || l.any fun u => !z2b u) = true then ((noT, 0, 1), s)
 else if (z0c x (infOf s.V x).lv l f.toNat ⟨s, f, 0⟩ t 0).2.e ≠ 0 then ((noT, 0, (z0c x (infOf s.V x).lv l f.toNat ⟨s, f, 0⟩ t 0).2.e), (z0c x (infOf s.V x).lv l f.toNat ⟨s, f, 0⟩ t 0).2.s)
 else ((z3w l.length (z0c x (infOf s.V x).lv l f.toNat ⟨s, f, 0⟩ t 0).1, (z0c x (infOf s.V x).lv l f.toNat ⟨s, f, 0⟩ t 0).2.f, 0), (z0c x (infOf s.V x).lv l f.toNat ⟨s, f, 0⟩ t 0).2.s)
theorem z35 {t : Tm} (h : z2b t = true) : t.sz = 1 ∧ (t.k = 3 ∨ t.k = 1) ∧ t.l = [] := by
 simp only [z2b, Bool.and_eq_true, Bool.or_eq_true, beq_iff_eq] at h
 obtain ⟨k, s, n, l⟩ := t
 have hk : k = 3 ∨ k = 1 := h.2
 have : l = [] := okB0 (z02 _ h.1) (by omega) (by omega)
 subst this
 exact ⟨rfl, hk, rfl⟩
theorem zuq {C : Nat} (hC : C ≤ 1073741824) (s : Sto) (x : Int) (l : List Tm) (t : Tm) (f : Int) (h0 : 0 ≤ f) (hf : f ≤ 900) (hs : OKS s) (hV : s.V.length + f.toNat ≤ C) (hT : s.T.length + f.toNat ≤ C)
  (hl : l.length ≤ 900) (hlz : ∀ u ∈ l, u.sz ≤ B) (hz : t.sz ≤ B) (hfit : validB t = true → Fit f.toNat t) :
  AC Tryz.prog 18 [aS 0, ci x, aL l, aT t, ci f] (oS s) (aHd (invertF s x l t f).1) (oS' (invertF s x l t f).2) := by
 have hI := z7r s x
 have ho := c_iodd t hz
 have ha := zhx (fun u => !z2b u) l (by simp only [B]; omega) (fun u hu => zs1 u (hlz u hu))
 have eF : invertF s x l t f = if (!inB s.V x || (infOf s.V x).bd || !validB t || l.any fun u => !z2b u) = true then ((noT, 0, 1), s)
  else if (z0c x (infOf s.V x).lv l f.toNat ⟨s, f, 0⟩ t 0).2.e ≠ 0 then ((noT, 0, (z0c x (infOf s.V x).lv l f.toNat ⟨s, f, 0⟩ t 0).2.e), (z0c x (infOf s.V x).lv l f.toNat ⟨s, f, 0⟩ t 0).2.s)
  else ((z3w l.length (z0c x (infOf s.V x).lv l f.toNat ⟨s, f, 0⟩ t 0).1, (z0c x (infOf s.V x).lv l f.toNat ⟨s, f, 0⟩ t 0).2.f, 0), (z0c x (infOf s.V x).lv l f.toNat ⟨s, f, 0⟩ t 0).2.s) := rfl
 have hterm : (l.any fun u => !z2b u) = false → AC Tryz.prog 63 [aIV, aT t, ci 0] (oIs x (infOf s.V x).lv l f 0 s) (aT (z0c x (infOf s.V x).lv l f.toNat ⟨s, f, 0⟩ t 0).1) (oIt x (infOf s.V x).lv l (z0c x (infOf s.V x).lv l f.toNat ⟨s, f, 0⟩ t 0).2.f (z0c x (infOf s.V x).lv l f.toNat ⟨s, f, 0⟩ t 0).2.e (z0c x (infOf s.V x).lv l f.toNat ⟨s, f, 0⟩ t 0).2.s) := fun h => by
  have hL : LP l := ⟨hl, fun u hu => (z35 (by have := List.any_eq_false.1 h u hu; simpa using this)).1⟩
  exact zsa hC hL x (infOf s.V x).lv f.toNat ⟨s, f, 0⟩ t 0 (Nat.le_refl _) ⟨hs, hV, hT, by simp only; omega, hf⟩ h0 hz (fun _ => hfit) (Int.le_refl _) (by simp only; omega)
 rw [eF]
 generalize infOf s.V x = i at *
 generalize inB s.V x = ib at *
 generalize (l.any fun u => !z2b u) = an at *
 obtain ⟨ilv, ibd, iv⟩ := i
 simp only at hterm ⊢
 generalize z0c x ilv l f.toNat ⟨s, f, 0⟩ t 0 = w at *
 obtain ⟨w1, ws, wf, we⟩ := w
 simp only at hterm ⊢
 generalize validB t = vt at *
 have bad : (!ib || ibd || !vt || an) = true → (TV.Le (.tup [(true, [.a (.fz (.int .i64 0)), .a (.fz (.str [])), .a (.fz (.int .i64 0)), .a (.fz .nils)]), (false, [.a (.fz (.int .i64 0))]), (false, [.a (.fz (.int .i64 1))])]) (aHd (if (!ib || ibd || !vt || an) = true then ((noT, 0, 1), s) else if we ≠ 0 then ((noT, 0, we), ws) else ((z3w l.length w1, wf, 0), ws)).1) ∧ oS' s = oS' (if (!ib || ibd || !vt || an) = true then ((noT, 0, 1), s) else if we ≠ 0 then ((noT, 0, we), ws) else ((z3w l.length w1, wf, 0), ws)).2) := fun h => by
  rw [if_pos h]; exact ⟨leHd (l := []) z0r, rfl⟩
 obtain ⟨tk, ts, tn, tl⟩ := t
 refine AC.vc hP sh lv18 (by simp) (by simp [isLive]) (by simp [isLive]) (Eq.mpr (v18 x (FTs l) tk ts tn (FTs tl) f ..) ?_)
 refine ⟨(ilv, ibd, iv, ib), hI, z00 (fun h => bad ?_) (fun h => z00 (fun h2 => bad ?_) (fun h2 => ⟨_, ho, z00 (fun h3 => bad ?_) (fun h3 => ⟨_, ha, z00 (fun h4 => bad ?_) (fun h4 => ?_)⟩)⟩))⟩
 · have h : (!ib) = true := h
   rw [h]; rfl
 · have h2 : ibd = true := h2
   rw [h2, Bool.or_true]; rfl
 · rw [h3, Bool.or_true]; rfl
 · have h4 : an = true := h4
   rw [h4, Bool.or_true]
 · have h : (!ib) = false := h
   have h2 : ibd = false := h2
   have h4 : an = false := h4
   rw [h, h2, h3, h4, if_neg (by simp)]
   refine ⟨(w1, ws, x, ilv, l, wf, we), hterm h4, z00 (fun he => ?_) (fun he => ⟨rfl, ?_⟩)⟩
   · have he : we ≠ 0 := by have he : (we != 0) = true := he; simpa using he
     rw [if_pos he]; exact ⟨leHd (l := []) z0r, rfl⟩
   · have he : we = 0 := by have he : (we != 0) = false := he; simpa using he
     rw [if_neg (by simp [he]), z01]
     exact ⟨_, zmx l.length w1 (by omega), .refl _, rfl⟩
end Go.AM

set_option maxRecDepth 100000
open Go Go.Proofs

set_option maxRecDepth 100000
open Go Go.Proofs

set_option maxRecDepth 100000
open Go Go.Proofs

set_option maxRecDepth 100000
open Go Go.Proofs

set_option maxRecDepth 100000
open Go Go.Proofs

set_option maxRecDepth 100000
open Go Go.Proofs

set_option maxRecDepth 100000
open Go Go.Proofs

set_option maxRecDepth 100000
open Go Go.Proofs
namespace Go.AM
mutual
theorem loose_ge : ∀ (t : Tm) (k acc : Int), acc ≤ looseF t k acc
 | .mk kd _ n l, k, acc => by
  rw [looseF]
  split
  · exact z8j l (k + 1) acc
  · split
    · exact z8j l k acc
    · split
      · unfold maxI; split <;> omega
      · exact Int.le_refl _
theorem z8j : ∀ (l : List Tm) (k acc : Int), acc ≤ z4v l k acc
 | [], _, _ => Int.le_refl _
 | t :: l, k, acc => by
  rw [z4v]
  have h1 := loose_ge t k acc
  have h2 := z8j l k (looseF t k acc)
  omega
end
mutual
theorem zn3 (M : Int) : ∀ (t : Tm) (k acc : Int), validB t = true → 0 ≤ k → k + (t.sz : Int) ≤ M → looseF t k acc ≤ 0 → bd M t
 | .mk kd s n l, k, acc, hv, hk, hM, h => by
  have hok := z02 _ hv
  simp only [Tm.sz] at hM
  by_cases h5 : kd = 5
  · have hkid := z06 hv (.inl h5)
    subst h5
    rw [looseF, if_pos (by decide)] at h
    exact ⟨fun q => by omega, za6 M l (k + 1) acc hkid (by omega) (by omega) h⟩
  · by_cases h6 : kd = 6
    · have hkid := z06 hv (.inr h6)
      subst h6
      rw [looseF, if_neg (by decide), if_pos (by decide)] at h
      exact ⟨fun q => by omega, za6 M l k acc hkid hk (by omega) h⟩
    · have hl := okB0 hok h5 h6
      subst hl
      refine ⟨fun q => ?_, trivial⟩
      subst q
      rw [looseF, if_neg (by decide), if_neg (by decide), if_pos (by decide)] at h
      have hn : 0 ≤ n := by
       rw [validB, if_neg (by decide), if_neg (by decide), if_neg (by decide), if_pos (by decide)] at hv
       simp only [Bool.and_eq_true, decide_eq_true_eq] at hv
       exact hv.1.1.1.1
      have : n - k + 1 ≤ 0 := by unfold maxI at h; split at h <;> omega
      omega
theorem za6 (M : Int) : ∀ (l : List Tm) (k acc : Int), (∀ u ∈ l, validB u = true) → 0 ≤ k → k + (Tm.szs l : Int) ≤ M → z4v l k acc ≤ 0 → bds M l
 | [], _, _, _, _, _, _ => trivial
 | t :: l, k, acc, hv, hk, hM, h => by
  rw [z4v] at h
  have h1 := z8j l k (looseF t k acc)
  simp only [Tm.szs] at hM
  exact ⟨zn3 M t k acc (hv t List.mem_cons_self) hk (by omega) (by omega), za6 M l k _ (fun u hu => hv u (List.mem_cons_of_mem _ hu)) hk (by omega) h⟩
end
end Go.AM

set_option maxRecDepth 100000
open Go Go.Proofs
namespace Go.AM
theorem z0v (q : IS) {e : Int} (h : e ≠ 0) : (z2f q e).e ≠ 0 := by
 unfold z2f
 split
 · exact h
 · rename_i h; exact h
theorem zme {lv : Int} {L : List Tm} {t : Tm} {k : Int} (h : t.sz = 1) : (imgT lv L t k).1.sz = 1 := by
 unfold imgT
 split
 · exact h
 · split
   · rfl
   · exact h
theorem zo0 (lv : Int) (L : List Tm) (k : Int) (m : Nat) : ∀ (l : List Tm) (i : Nat) (a : List Tm × List Tm), (∀ t ∈ l, t.sz = 1) → (∀ t ∈ a.2, t.sz = 1) → ∀ t ∈ (imgs lv L k m l i a).2, t.sz = 1
 | [], _, _, _, h => h
 | t :: l, i, a, hl, h => by
  rw [imgs]
  refine zo0 lv L k m l (i + 1) _ (fun u hu => hl u (List.mem_cons_of_mem _ hu)) ?_
  split
  · intro u hu
    rcases List.mem_append.1 hu with hu | hu
    · exact h u hu
    · rw [List.mem_singleton.1 hu]; exact zme (hl t List.mem_cons_self)
  · exact h
theorem zim (c : Bool) (lvy k : Int) (n : Nat) : ∀ (l : List Tm) (i : Nat) (a : List Tm × List Tm), (∀ t ∈ a.2, t.sz = 1) → ∀ t ∈ (z4b c lvy k n l i a).2, t.sz = 1
 | [], _, _, h => h
 | t :: l, i, a, h => by
  rw [z4b]
  refine zim c lvy k n l (i + 1) _ ?_
  split
  · intro u hu
    rcases List.mem_append.1 hu with hu | hu
    · exact h u hu
    · rw [List.mem_singleton.1 hu]; rfl
  · exact h
theorem flexG_sz {lv : Int} {L : List Tm} {q : IS} {y k : Int} {ls : List Tm} {f : Int} (h : ∀ t ∈ ls, t.sz = 1) : (z57 lv L q y k ls f).1.sz ≤ 2 + ls.length + L.length := by
 have i1 := zo0 lv L k ls.length ls 0 ([], []) h (fun t h => nomatch h)
 have i2 := z8t lv L k ls.length ls 0 ([], []) rfl
 have m1 := zim (decide ((infOf q.s.V y).lv > lv)) (infOf q.s.V y).lv k L.length L 0 _ i1
 have m2 := z6w (decide ((infOf q.s.V y).lv > lv)) (infOf q.s.V y).lv k L.length L 0 (imgs lv L k ls.length ls 0 ([], [])) i2.1
 simp only [List.length_nil, Nat.zero_add] at i2
 unfold z57
 split
 · have a := z2m (.mk 4 [] y []) (imgs lv L k ls.length ls 0 ([], [])).2
   have b := zgu i1
   have c : (Tm.mk 4 [] y []).sz = 1 := rfl
   simp only
   omega
 · have a := z2m (.mk 4 [] (q.s.V.length : Int) []) (onF lv (infOf q.s.V y).lv L k ls).2
   have b := zgu m1
   have c : (Tm.mk 4 [] (q.s.V.length : Int) []).sz = 1 := rfl
   simp only
   unfold onF at a ⊢
   omega
section
variable {C : Nat} (hC : C ≤ 1073741824) {L : List Tm} (hL : LP L) (hL1 : L.length ≤ 157) (x lv : Int)
include hC hL hL1
omit hC hL hL1 in
theorem zt4 {tm : IS → Tm → Tm × IS} {f0 : Int} (hgi : ∀ q t, GI C q → 0 ≤ q.f → q.f ≤ f0 → (q.e = 0 → validB t = true → Fit q.f.toNat t) → GI C (tm q t).2 ∧ (tm q t).2.f ≤ q.f ∧ 0 ≤ (tm q t).2.f)
  (htm : ∀ q t, GI C q → 0 ≤ q.f → q.f ≤ f0 → (q.e = 0 → validB t = true → Fit q.f.toNat t) → (tm q t).2.e = 0 → q.e = 0 ∧ ((tm q t).1.sz : Int) + 160 * (tm q t).2.f ≤ 160 * q.f) :
  ∀ (l : List Tm) (q : IS), GI C q → 0 ≤ q.f → q.f ≤ f0 → (∀ t ∈ l, validB t = true → Fit q.f.toNat t) → (z1i tm l q).2.e = 0 → q.e = 0 ∧ (Tm.szs (z1i tm l q).1 : Int) + 160 * (z1i tm l q).2.f ≤ 160 * q.f
 | [], q, h, h0, _, _, he => ⟨he, by simp only [z1i, Tm.szs]; omega⟩
 | t :: l, q, h, h0, h1, hl, he => by
  have a := hgi q t h h0 h1 (fun _ => hl t List.mem_cons_self)
  have b := zt4 hgi htm l (tm q t).2 a.1 a.2.2 (by omega) (fun u hu hv => (hl u (List.mem_cons_of_mem _ hu) hv).mono (by omega)) he
  have c := htm q t h h0 h1 (fun _ => hl t List.mem_cons_self) b.1
  refine ⟨c.1, ?_⟩
  simp only [z1i, Tm.szs]
  have := b.2
  have := c.2
  omega
theorem zto : ∀ (D : Nat) (q : IS) (t : Tm) (k : Int), GI C q → 0 ≤ q.f → (q.e = 0 → validB t = true → Fit q.f.toNat t) → (z0c x lv L D q t k).2.e = 0 → q.e = 0 ∧ ((z0c x lv L D q t k).1.sz : Int) + 160 * (z0c x lv L D q t k).2.f ≤ 160 * q.f
 | 0, q, t, k, h, h0, _, he => by
  rw [z0c] at he
  split at he
  · rename_i q1; exact absurd he q1
  · exact absurd he (z0v _ (by decide))
 | D + 1, q, t, k, h, h0, hf, he => by
  rw [z0c] at he ⊢
  split at he
  · rename_i q1; exact absurd he q1
  rename_i q1
  rw [if_neg q1]
  have e0 : q.e = 0 := by simpa using q1
  refine ⟨e0, ?_⟩
  split at he
  · exact absurd he (z0v _ (by decide))
  rename_i hf0
  rw [if_neg hf0]
  have hV := h.V
  have hT := h.T
  have hfit : validB t = true → Fit (q.f - 1).toNat t := fun hv => (hf e0 hv).mono (by omega)
  unfold zdo at he ⊢
  split at he
  · rename_i hz; exact absurd he (z0v _ hz)
  rename_i hz
  rw [if_neg hz]
  have ok := z5z h.ok (by omega) hfit (by simpa using hz)
  generalize z1l q.s (q.f - 1) t = z at *
  obtain ⟨z1, z2, z3⟩ := z
  simp only at ok he ⊢
  obtain ⟨hv, hfz, hz0, hz1⟩ := ok
  have sp := zay hv hfz
  have g : GI C ⟨q.s, z2, q.e⟩ := h.less hz0 (by omega)
  have ih := fun q' t' k' => zto D q' t' k'
  have gi := fun q' t' k' => z6n hC hL x lv D q' t' k'
  unfold z4r at he ⊢
  split at he
  · rename_i h5
    rw [if_pos h5]
    have hne : (z03 z1).1.l ≠ [] := fun e => by
     have o := z02 _ sp.1.1
     generalize (z03 z1).1 = w at *
     obtain ⟨wk, ws, wn, wl⟩ := w
     obtain ⟨u, hu, _⟩ := okB5 o h5
     rw [hu] at e; cases e
    have hm : hd (z03 z1).1.l ∈ (z03 z1).1.l := by
     cases hl : (z03 z1).1.l with
     | nil => exact absurd hl hne
     | cons a b => exact List.mem_cons_self
    have := ih ⟨q.s, z2, q.e⟩ (hd (z03 z1).1.l) (k + 1) g hz0 (fun _ hv => (sp.2.2.2 _ hm).2 hv) he
    simp only at this ⊢
    rw [zb5]
    have := this.2
    omega
  rename_i h5
  rw [if_neg h5]
  split at he
  · rename_i h4
    rw [if_pos h4]
    split at he
    · exact absurd he (z0v _ (by decide))
    rename_i hx
    rw [if_neg hx]
    have ha := z40 g.ok (z03 z1).1.n (z03 z1).2 z2 (fun t ht => (sp.2.1 t ht).2)
    unfold z2s at he ⊢
    split at he
    · rename_i hr; exact absurd he (z0v _ hr)
    rename_i hr
    rw [if_neg hr]
    have ha2 := ha.2.1 hz0 (by simpa using hr)
    have := flexG_sz (lv := lv) (L := L) (q := ⟨q.s, z2, q.e⟩) (y := (z03 z1).1.n) (k := k) (f := (z0o q.s (z03 z1).1.n (z03 z1).2 z2).2.1) (fun t ht => (ha.1 t ht).1)
    rw [zkd]
    simp only at this ha2 ⊢
    omega
  rename_i h4
  rw [if_neg h4]
  unfold zd1 at he ⊢
  split at he
  · exact absurd he (z0v _ (by decide))
  rename_i hi
  rw [if_neg hi]
  have h6 : (z03 z1).1.k ≠ 6 := by
   unfold z03
   split
   · rename_i h6
     obtain ⟨zk, zs, zn, zl⟩ := z1
     obtain ⟨a, b, r, rfl, ha6, _⟩ := okB6 (z02 _ hv) h6.1
     exact ha6
   · rename_i h6
     exact fun q => h6 ⟨q, hv⟩
  have hone : (z03 z1).1.sz = 1 := by
   have o := z02 _ sp.1.1
   generalize (z03 z1).1 = w at *
   obtain ⟨wk, ws, wn, wl⟩ := w
   have := okB0 o h5 h6
   subst this
   rfl
  have kk := zt4 (tm := fun q t => z0c x lv L D q t k) (f0 := z2) (fun q' t' a b _ d => gi q' t' k a b d) (fun q' t' a b _ d e => ih q' t' k a b d e) (z03 z1).2 ⟨q.s, z2, q.e⟩ g hz0 (Int.le_refl _) (fun t ht => (sp.2.1 t ht).2) he
  have hh : (if (z03 z1).1.k = 3 ∨ (z03 z1).1.k = 1 then (imgT lv L (z03 z1).1 k).1 else (z03 z1).1).sz = 1 := by
   split
   · exact zme hone
   · exact hone
  have ap := z2m (if (z03 z1).1.k = 3 ∨ (z03 z1).1.k = 1 then (imgT lv L (z03 z1).1 k).1 else (z03 z1).1) (z1i (fun q t => z0c x lv L D q t k) (z03 z1).2 ⟨q.s, z2, q.e⟩).1
  have k2 := kk.2
  simp only at k2 ap ⊢
  omega
end
end Go.AM

set_option maxRecDepth 100000
open Go Go.Proofs
namespace Go.AM
mutual
def vP (p : Int → Bool) : Tm → Bool
 | .mk k _ n l => (k != 4 || p n) && vPL p l
def vPL (p : Int → Bool) : List Tm → Bool
 | [] => true
 | t :: l => vP p t && vPL p l
end
section
variable {p : Int → Bool}
theorem z9u : ∀ {l : List Tm}, vPL p l = true ↔ ∀ t ∈ l, vP p t = true
 | [] => ⟨fun _ t h => (by cases h), fun _ => rfl⟩
 | t :: l => by
  rw [vPL, Bool.and_eq_true, z9u (l := l)]
  exact ⟨fun h u hu => (List.mem_cons.1 hu).elim (fun e => e ▸ h.1) (h.2 u), fun h => ⟨h t List.mem_cons_self, fun u hu => h u (List.mem_cons_of_mem _ hu)⟩⟩
theorem vP_kid {t u : Tm} (h : vP p t = true) (hu : u ∈ t.l) : vP p u = true := by
 obtain ⟨k, s, n, l⟩ := t
 rw [vP, Bool.and_eq_true] at h
 exact z9u.1 h.2 u hu
theorem vP_var {t : Tm} (h : vP p t = true) (hk : t.k = 4) : p t.n = true := by
 obtain ⟨k, s, n, l⟩ := t
 have hk : k = 4 := hk
 subst hk
 rw [vP, Bool.and_eq_true] at h
 show p n = true
 simpa using h.1
theorem vP_node {k n : Int} {s : List UInt8} {l : List Tm} (hk : k ≠ 4) (h : ∀ t ∈ l, vP p t = true) : vP p (.mk k s n l) = true := by
 rw [vP, z9u.2 h]; simp [hk]
theorem zn0 {l : List Tm} (h : l ≠ []) : hd l ∈ l := by
 cases l with
 | nil => exact absurd rfl h
 | cons a b => exact List.mem_cons_self
end
end Go.AM

set_option maxRecDepth 100000
open Go Go.Proofs
namespace Go.AM
theorem z4k {s : Sto} {lv i : Int} (h0 : 0 ≤ i) (h1 : i < (s.V.length : Int)) : infOf (freshS s lv).V i = infOf s.V i := by
 obtain ⟨hl, e⟩ := z1k h0 h1
 obtain ⟨hl', e'⟩ := z1k (V := (freshS s lv).V) h0 (by simp [freshS]; omega)
 rw [e, e']
 exact List.getElem_append_left hl
theorem z9y {s : Sto} {y i : Int} {t : Tm} (h0 : 0 ≤ i) (h1 : i < (s.V.length : Int)) : infOf (bindS s y t).V i = infOf s.V i ∨ (i = y ∧ infOf (bindS s y t).V i = ⟨(infOf s.V y).lv, true, t⟩) := by
 by_cases q : z3z s y t = true
 · have hy := z77 q
   obtain ⟨hl, e⟩ := z1k h0 h1
   obtain ⟨hl', e'⟩ := z1k (V := (bindS s y t).V) h0 (by rw [z1y]; exact h1)
   by_cases hiy : i = y
   · right
     refine ⟨hiy, ?_⟩
     subst hiy
     rw [e']
     simp only [(z25 q).1, List.getElem_set_self]
   · left
     rw [e, e']
     simp only [(z25 q).1]
     rw [List.getElem_set_ne (by omega)]
 · left; rw [(z49 (by simpa using q)).1]
end Go.AM

set_option maxRecDepth 100000
open Go Go.Proofs
namespace Go.AM
inductive Chg (s0 : Sto) : Sto → Prop
 | refl : Chg s0 s0
 | fresh {s : Sto} (lv : Int) : Chg s0 s → Chg s0 (freshS s lv)
 | bind {s : Sto} (x : Int) (t : Tm) : Chg s0 s → Chg s0 (bindS s x t)
theorem Chg.hang {s0 s : Sto} (h : Chg s0 s) (y lv : Int) (m : Nat) (on : List Tm) : Chg s0 (z7o s y lv m on) := (h.fresh lv).bind _ _
theorem Chg.fail {s0 : Sto} {q : IS} (h : Chg s0 q.s) (e : Int) : Chg s0 (z2f q e).s := by unfold z2f; split <;> exact h
theorem zk2 {s0 : Sto} (lv : Int) (L : List Tm) {q : IS} (h : Chg s0 q.s) (y : Int) (l : List Tm) (k : Int) : Chg s0 (z2s lv L q y l k).2.s := by
 unfold z2s
 split
 · exact h.fail _
 · unfold z57
   split
   · exact h
   · exact h.hang _ _ _ _
theorem zfq {s0 : Sto} {tm : IS → Tm → Tm × IS} (htm : ∀ q t, Chg s0 q.s → Chg s0 (tm q t).2.s) : ∀ (l : List Tm) (q : IS), Chg s0 q.s → Chg s0 (z1i tm l q).2.s
 | [], _, h => h
 | t :: l, q, h => zfq htm l (tm q t).2 (htm q t h)
theorem z4y {s0 : Sto} (x lv : Int) (L : List Tm) : ∀ (D : Nat) (q : IS) (t : Tm) (k : Int), Chg s0 q.s → Chg s0 (z0c x lv L D q t k).2.s
 | 0, q, t, k, h => by
  rw [z0c]
  split
  · exact h
  · exact h.fail _
 | D + 1, q, t, k, h => by
  rw [z0c]
  split
  · exact h
  · split
    · exact h.fail _
    · unfold zdo
      split
      · exact h.fail _
      · generalize z1l q.s (q.f - 1) t = z
        obtain ⟨z1, z2, z3⟩ := z
        dsimp only
        unfold z4r
        split
        · exact z4y x lv L D ⟨q.s, z2, q.e⟩ _ _ h
        · split
          · split
            · exact Chg.fail (q := ⟨q.s, z2, q.e⟩) h _
            · exact zk2 lv L (q := ⟨q.s, z2, q.e⟩) h _ _ _
          · unfold zd1
            split
            · exact Chg.fail (q := ⟨q.s, z2, q.e⟩) h _
            · exact zfq (fun q' t' a => z4y x lv L D q' t' k a) _ ⟨q.s, z2, q.e⟩ h
theorem zpz {s0 s : Sto} (h : Chg s0 s) (x : Int) (l : List Tm) (t : Tm) (f : Int) : Chg s0 (invertF s x l t f).2 := by
 unfold invertF
 split
 · exact h
 · split <;> exact z4y _ _ _ _ _ _ _ h
def WF (s : Sto) : Prop := ∀ i ∈ s.V, i.bd = false → i.v = noT
theorem WF.fresh {s : Sto} (h : WF s) (lv : Int) : WF (freshS s lv) := fun i hi hb => by
 rcases List.mem_append.1 hi with hi | hi
 · exact h i hi hb
 · simp at hi; subst hi; rfl
theorem OKT.fresh {s : Sto} (h : OKT s) (lv : Int) : OKT (freshS s lv) := fun x hx => by
 have := h x hx
 rw [(zai s lv).1]; omega
def okP (F : Nat) (t : Tm) : Prop := validB t = true ∧ Fit F t
theorem z85 {F : Nat} {z : Tm} (h : okP F z) : okP F (z03 z).1 ∧ (∀ t ∈ (z03 z).2, okP F t) ∧ (z03 z).2.length ≤ SZ := by
 have sp := zay h.1 h.2
 refine ⟨sp.1, fun t ht => ?_, sp.2.2.1⟩
 unfold z03 at ht
 split at ht
 · rename_i h6
   obtain ⟨k, s, n, l⟩ := z
   have hm : t ∈ l := List.mem_of_mem_drop ht
   have hv := z06 h.1 (.inr h6.1) t hm
   exact ⟨hv, h.2.kid hm⟩
 · cases ht
end Go.AM

set_option maxRecDepth 100000
open Go Go.Proofs
namespace Go.AM
theorem bV3_bd {n : Int} (h0 : -1000000 ≤ n) (h1 : n ≤ 1000000) : bd M61 (bV3 n) := ⟨fun _ => ⟨by simp only [M61]; omega, by simp only [M61]; omega⟩, trivial⟩
theorem zc9 : bd M61 noT := ⟨fun q => (by cases q), trivial⟩
theorem zvk {lv : Int} {L : List Tm} {t : Tm} {k : Int} (h : bd M61 t) (hL : L.length ≤ 900) (hk0 : 0 ≤ k) (hk1 : k ≤ 6000) : bd M61 (imgT lv L t k).1 := by
 have hlt := ztr (fun u => lfB u (outT t k)) L 0
 unfold imgT
 split
 · exact h
 · split
   · exact bV3_bd (by omega) (by omega)
   · exact h
theorem zso (lv : Int) (L : List Tm) (k : Int) (m : Nat) (hL : L.length ≤ 900) (hk0 : 0 ≤ k) (hk1 : k ≤ 6000) : ∀ (l : List Tm) (i : Nat) (a : List Tm × List Tm), (∀ t ∈ l, bd M61 t) → (∀ t ∈ a.2, bd M61 t) → ∀ t ∈ (imgs lv L k m l i a).2, bd M61 t
 | [], _, _, _, h => h
 | t :: l, i, a, hl, h => by
  rw [imgs]
  refine zso lv L k m hL hk0 hk1 l (i + 1) _ (fun u hu => hl u (List.mem_cons_of_mem _ hu)) ?_
  split
  · intro u hu
    rcases List.mem_append.1 hu with hu | hu
    · exact h u hu
    · rw [List.mem_singleton.1 hu]; exact zvk (hl t List.mem_cons_self) hL hk0 hk1
  · exact h
theorem zoa (c : Bool) (lvy k : Int) (n : Nat) (hn : n ≤ 900) (hk0 : 0 ≤ k) (hk1 : k ≤ 6000) : ∀ (l : List Tm) (i : Nat) (a : List Tm × List Tm), i + l.length ≤ n → (∀ t ∈ a.2, bd M61 t) → ∀ t ∈ (z4b c lvy k n l i a).2, bd M61 t
 | [], _, _, _, h => h
 | t :: l, i, a, hi, h => by
  rw [z4b]
  simp only [List.length_cons] at hi
  refine zoa c lvy k n hn hk0 hk1 l (i + 1) _ (by omega) ?_
  split
  · intro u hu
    rcases List.mem_append.1 hu with hu | hu
    · exact h u hu
    · rw [List.mem_singleton.1 hu]; exact bV3_bd (by omega) (by omega)
  · exact h
theorem zmm {M : Int} (n : Nat) {t : Tm} (h : bd M t) : bd M (z3w n t) := zgf n h
section
variable {C : Nat} (hC : C ≤ 1073741824) {L : List Tm} (hL : LP L) (x lv : Int)
include hL
theorem flexG_bd {q : IS} {y k : Int} {ls : List Tm} {f : Int} (h : ∀ t ∈ ls, bd M61 t) (hk0 : 0 ≤ k) (hk1 : k ≤ 6000) : bd M61 (z57 lv L q y k ls f).1 := by
 have i2 := zso lv L k ls.length hL.1 hk0 hk1 ls 0 ([], []) h (fun t h => nomatch h)
 have m2 := zoa (decide ((infOf q.s.V y).lv > lv)) (infOf q.s.V y).lv k L.length hL.1 hk0 hk1 L 0 _ (by omega) i2
 unfold z57
 split
 · exact z2n ⟨fun q => (by cases q), trivial⟩ (z63 i2)
 · exact z2n ⟨fun q => (by cases q), trivial⟩ (z63 m2)
include hC
omit hC hL in
theorem zqs {tm : IS → Tm → Tm × IS} {f0 : Int} (hgi : ∀ q t, GI C q → 0 ≤ q.f → q.f ≤ f0 → (q.e = 0 → validB t = true → Fit q.f.toNat t) → GI C (tm q t).2 ∧ (tm q t).2.f ≤ q.f ∧ 0 ≤ (tm q t).2.f)
  (htm : ∀ q t, GI C q → 0 ≤ q.f → q.f ≤ f0 → (q.e = 0 → validB t = true → Fit q.f.toNat t) → bd M61 (tm q t).1) :
  ∀ (l : List Tm) (q : IS), GI C q → 0 ≤ q.f → q.f ≤ f0 → (∀ t ∈ l, validB t = true → Fit q.f.toNat t) → bds M61 (z1i tm l q).1
 | [], q, h, h0, _, _ => trivial
 | t :: l, q, h, h0, h1, hl => by
  have a := hgi q t h h0 h1 (fun _ => hl t List.mem_cons_self)
  exact ⟨htm q t h h0 h1 (fun _ => hl t List.mem_cons_self), zqs hgi htm l (tm q t).2 a.1 a.2.2 (by omega) (fun u hu hv => (hl u (List.mem_cons_of_mem _ hu) hv).mono (by omega))⟩
theorem zt9 : ∀ (D : Nat) (q : IS) (t : Tm) (k : Int), GI C q → 0 ≤ q.f → (q.e = 0 → validB t = true → Fit q.f.toNat t) → 0 ≤ k → k + (D : Int) ≤ 6000 → bd M61 (z0c x lv L D q t k).1
 | 0, q, t, k, h, h0, _, _, _ => by
  rw [z0c]
  split <;> exact zc9
 | D + 1, q, t, k, h, h0, hf, hk0, hk1 => by
  rw [z0c]
  split
  · exact zc9
  rename_i q1
  have e0 : q.e = 0 := by simpa using q1
  split
  · exact zc9
  rename_i hf0
  have hfit : validB t = true → Fit (q.f - 1).toNat t := fun hv => (hf e0 hv).mono (by omega)
  unfold zdo
  split
  · exact zc9
  rename_i hz
  have ok := z5z h.ok (by omega) hfit (by simpa using hz)
  generalize z1l q.s (q.f - 1) t = z at *
  obtain ⟨z1, z2, z3⟩ := z
  dsimp only at ok ⊢
  obtain ⟨hv, hfz, hz0, hz1⟩ := ok
  have sp := z85 ⟨hv, hfz⟩
  have g : GI C ⟨q.s, z2, q.e⟩ := h.less hz0 (by omega)
  have ih := fun q' t' k' => zt9 D q' t' k'
  have gi := fun q' t' k' => z6n hC hL x lv D q' t' k'
  unfold z4r
  split
  · rename_i h5
    have hne : (z03 z1).1.l ≠ [] := fun e => by
     have o := z02 _ sp.1.1
     generalize (z03 z1).1 = w at *
     obtain ⟨wk, ws, wn, wl⟩ := w
     obtain ⟨u, hu, _⟩ := okB5 o h5
     rw [hu] at e; cases e
    have hm : hd (z03 z1).1.l ∈ (z03 z1).1.l := zn0 hne
    exact zmm 1 (ih ⟨q.s, z2, q.e⟩ _ (k + 1) g hz0 (fun _ _ => sp.1.2.kid hm) (by omega) (by omega))
  split
  · split
    · exact zc9
    have ha := z40 g.ok (z03 z1).1.n (z03 z1).2 z2 (fun t ht _ => (sp.2.1 t ht).2)
    unfold z2s
    split
    · exact zc9
    exact flexG_bd hL lv (fun t ht => (ha.1 t ht).2.2.2.1) hk0 (by omega)
  · unfold zd1
    split
    · exact zc9
    have kk := zqs (C := C) (tm := fun q t => z0c x lv L D q t k) (f0 := z2) (fun q' t' a b _ d => gi q' t' k a b d) (fun q' t' a b _ d => ih q' t' k a b d hk0 (by omega)) (z03 z1).2 ⟨q.s, z2, q.e⟩ g hz0 (Int.le_refl _) (fun t ht _ => (sp.2.1 t ht).2)
    refine z2n ?_ kk
    split
    · exact zvk sp.1.2.bd hL.1 hk0 (by omega)
    · exact sp.1.2.bd
end
theorem zuo {C : Nat} (hC : C ≤ 1073741824) {s : Sto} (hs : OKS s) (x : Int) {l : List Tm} {t : Tm} {f : Int} (h0 : 0 ≤ f) (hf : f ≤ 157) (hV : s.V.length + f.toNat ≤ C) (hT : s.T.length + f.toNat ≤ C) (hl : l.length ≤ 157) (hfit : validB t = true → Fit f.toNat t) :
  OKS (invertF s x l t f).2 ∧ (invertF s x l t f).2.V.length ≤ C ∧ (invertF s x l t f).2.T.length ≤ C ∧ ((invertF s x l t f).1.2.2 = 0 → 0 ≤ (invertF s x l t f).1.2.1 ∧ (invertF s x l t f).1.2.1 ≤ f ∧
   (invertF s x l t f).2.V.length + (invertF s x l t f).1.2.1.toNat ≤ C ∧ (invertF s x l t f).2.T.length + (invertF s x l t f).1.2.1.toNat ≤ C ∧ (invertF s x l t f).1.1.sz ≤ 40000 ∧ bd M61 (invertF s x l t f).1.1) := by
 unfold invertF
 split
 · exact ⟨hs, by simp only; omega, by simp only; omega, fun h => by cases h⟩
 · rename_i hc
   simp only [Bool.or_eq_true, not_or] at hc
   have hL : LP l := ⟨by omega, fun u hu => (z35 (t := u) (by have := List.any_eq_false.1 (by simpa using hc.2 : (l.any fun u => !z2b u) = false) u hu; simpa using this)).1⟩
   have gg : GI C ⟨s, f, 0⟩ := ⟨hs, hV, hT, by simp only; omega, by simp only; omega⟩
   have g := z6n hC hL x (infOf s.V x).lv f.toNat ⟨s, f, 0⟩ t 0 gg h0 (fun _ => hfit)
   have z := zto hC hL hl x (infOf s.V x).lv f.toNat ⟨s, f, 0⟩ t 0 gg h0 (fun _ => hfit)
   have b := zt9 hC hL x (infOf s.V x).lv f.toNat ⟨s, f, 0⟩ t 0 gg h0 (fun _ => hfit) (Int.le_refl _) (by omega)
   generalize z0c x (infOf s.V x).lv l f.toNat ⟨s, f, 0⟩ t 0 = w at *
   obtain ⟨w1, ws, wf, we⟩ := w
   have gV := g.1.V
   have gT := g.1.T
   dsimp only at *
   split
   · rename_i he; exact ⟨g.1.ok, by dsimp only; omega, by dsimp only; omega, fun h => absurd h he⟩
   · rename_i he
     have he : we = 0 := by simpa using he
     have z := (z he).2
     refine ⟨g.1.ok, by dsimp only; omega, by dsimp only; omega, fun _ => ⟨g.2.2, g.2.1, gV, gT, ?_, zmm _ b⟩⟩
     dsimp only
     rw [zb5]
     omega
end Go.AM

set_option maxRecDepth 100000
open Go Go.Proofs

set_option maxRecDepth 100000
open Go Go.Proofs

set_option maxRecDepth 100000
open Go Go.Proofs
namespace Go.AM
theorem valid_n {t : Tm} (hv : validB t = true) (h4 : t.k = 4) : 0 ≤ t.n := by
 obtain ⟨k, s, n, l⟩ := t
 have h4 : k = 4 := h4
 show 0 ≤ n
 subst h4
 rw [validB] at hv
 simp at hv
 omega
end Go.AM

set_option maxRecDepth 100000
open Go Go.Proofs

set_option maxRecDepth 100000
open Go Go.Proofs
namespace Go.AM
mutual
theorem zm2 {q : Int → Bool} : ∀ (t : Tm) (acc : List Int), vP q t = true → (∀ v ∈ acc, q v = true) → ∀ v ∈ z0z t acc, q v = true
 | .mk k s n l, acc, h, ha => by
  have hl := h
  rw [vP, Bool.and_eq_true] at hl
  rw [z0z]
  split
  · exact zhe l acc hl.2 ha
  · unfold z0l
    split
    · rename_i hk
      intro v hv
      rcases List.mem_append.1 hv with hv | hv
      · exact ha v hv
      · simp at hv
        rw [Bool.and_eq_true] at hk
        have h4 : k = 4 := by have : (k == 4) = true := hk.1; simpa using this
        subst hv
        exact vP_var h h4
    · exact ha
theorem zhe {q : Int → Bool} : ∀ (l : List Tm) (acc : List Int), vPL q l = true → (∀ v ∈ acc, q v = true) → ∀ v ∈ z4d l acc, q v = true
 | [], _, _, ha => ha
 | t :: l, acc, h, ha => by
  rw [vPL, Bool.and_eq_true] at h
  rw [z4d]
  exact zhe l _ h.2 (zm2 t acc h.1 ha)
end
theorem hasI_mm {n : Int} {l : List Int} (h : hasI n l = true) : n ∈ l := by
 simp only [hasI, List.any_eq_true, beq_iff_eq] at h
 obtain ⟨y, hy, rfl⟩ := h
 exact hy
mutual
theorem zts (W : List Int) : ∀ (t : Tm) (acc : List Int), okB t = true → (∀ v ∈ z0z t acc, v ∈ W) → vP (fun n => decide (n ∈ W)) t = true
 | .mk k s n l, acc, ho, h => by
  have hol := z78 ho
  rw [z0z] at h
  split at h
  · rename_i hk
    have h56 : k = 5 ∨ k = 6 := by simpa using hk
    have := znh W l acc hol h
    rw [vP, this]
    simp; omega
  · rename_i hk
    have h5 : k ≠ 5 ∧ k ≠ 6 := by simpa using hk
    have hl : l = [] := okB0 ho h5.1 h5.2
    subst hl
    by_cases h4 : k = 4
    · subst h4
      have : n ∈ W := by
       unfold z0l at h
       split at h
       · exact h n (List.mem_append.2 (.inr (by simp [Tm.n])))
       · rename_i hc
         have hh : hasI n acc = true := by
          simp only [Tm.k, Tm.n] at hc
          simpa using hc
         exact h n (hasI_mm hh)
      rw [vP, vPL]; simp [this]
    · exact vP_node h4 (fun t h => nomatch h)
theorem znh (W : List Int) : ∀ (l : List Tm) (acc : List Int), okL l = true → (∀ v ∈ z4d l acc, v ∈ W) → vPL (fun n => decide (n ∈ W)) l = true
 | [], _, _, _ => rfl
 | t :: l, acc, ho, h => by
  simp only [okL, Bool.and_eq_true] at ho
  rw [z4d] at h
  have h2 := znh W l _ ho.2 h
  have h1 := zts W t acc ho.1 (fun v hv => h v (by
   obtain ⟨e, he⟩ := zcf l (z0z t acc)
   rw [he]; exact List.mem_append_left _ hv))
  rw [vPL, h1, h2]; rfl
end
theorem vP_imp {p q : Int → Bool} (hpq : ∀ n, p n = true → q n = true) : ∀ t : Tm, vP p t = true → vP q t = true := by
 refine Tm.ind fun t ih h => ?_
 obtain ⟨k, s, n, l⟩ := t
 rw [vP, Bool.and_eq_true] at h ⊢
 refine ⟨?_, z9u.2 fun u hu => ih u hu (z9u.1 h.2 u hu)⟩
 have := h.1
 simp only [Bool.or_eq_true] at this ⊢
 exact this.imp id (hpq n)
theorem valid_vP : ∀ t : Tm, validB t = true → vP (fun n => decide (0 ≤ n)) t = true := by
 refine Tm.ind fun t ih h => ?_
 have hn := fun q => valid_n h q
 obtain ⟨k, s, n, l⟩ := t
 rw [vP, Bool.and_eq_true]
 refine ⟨?_, z9u.2 fun u hu => ?_⟩
 · by_cases h4 : k = 4
   · have := hn h4
     simp only [Bool.or_eq_true, decide_eq_true_eq]; exact .inr this
   · simp [h4]
 · by_cases h56 : k = 5 ∨ k = 6
   · exact ih u hu (z06 h h56 u hu)
   · rw [not_or] at h56
     have : l = [] := okB0 (z02 _ h) h56.1 h56.2
     subst this; cases hu
end Go.AM

set_option maxRecDepth 100000
open Go Go.Proofs
namespace Go.AM
theorem IR_mid (a : List Int) (v : Int) (b : List Int) : List.getD (IR (a ++ v :: b)) (Int.toNat (a.length : Int)) [] = [.int .i64 v] := by simp [IR, List.getD]
theorem IR_len (l : List Int) : (IR l).length = l.length := by simp [IR]
theorem varsV (t : Tm) (hv : validB t = true) (hz : t.sz ≤ 24) : (∀ v ∈ z0z t [], 0 ≤ v) ∧ (z0z t []).length ≤ 24 ∧ vP (fun n => decide (n ∈ z0z t [])) t = true := by
 refine ⟨fun v h => of_decide_eq_true (zm2 t [] (valid_vP t hv) (fun v h => nomatch h) v h), ?_, zts _ t [] (z02 _ hv) fun v h => h⟩
 have := z59 t []
 simp only [List.length_nil] at this; omega
end Go.AM
