/- Package journal: may, records' maker, found of whatever a file holds, Compact; no condition. -/
import Derived.Test.YtdlplablojdjlaaJt
namespace Go.Proofs.Ytdlplablojdjlaa
open Go Go.RowKit

set_option maxRecDepth 100000 in
set_option maxHeartbeats 1000000 in
theorem jMay (o : Bool) (w : World) : Calls Try.prog 15 #[.string (nmOf o)] w fun e w' => e = .returned (.bool true) ∧ Mod (fun _ => False) w w' := by
  have HN := Lib.hid (jNewDisk w.heap.size 1 w (Nat.le_refl _) (by decide) (by decide))
  have HC : Hid (∀ (d m : Nat) (w' : World) (st : Value) (ms : List Nat), DK w' w.heap.size d 1 m (fun _ => none) st ms (.slice none 0 0) [] → ms.length ≤ 5 → w.heap.size ≤ w'.heap.size → Calls Try.prog 35 #[.pointer (some ⟨d, 0, none⟩), .string (nmOf o)] w' fun e w'' => e = .returned (.int .i64 0) ∧ TM tD w.heap.size w' w'') := fun d m w' st ms hd hms hb => (jCreate o hd rfl hms hb).mono fun e w'' h => ⟨h.1, by obtain ⟨_, _, _, _, _, _, ht⟩ := h; exact ht⟩
  obtain ⟨S, hS⟩ : ∃ S, S = nmOf o := ⟨_, rfl⟩
  rw [← hS] at HC ⊢
  clear hS
  go_enter Try.func15, Try.ntmps15
  go_wp2_with fail
  refine HN.out.mono ?_; rintro e w1 ⟨d, rfl, ⟨m, m2, st, hd⟩, n1⟩
  have HD := Lib.hid hd
  have N1 := Lib.hid n1
  clear hd n1
  go_wp2_with fail
  refine (HC.out d m w1 st [m2] HD.out (by simp) N1.out.size).mono ?_; rintro e w2 ⟨rfl, t2⟩
  have N2 : Hid (Mod (fun _ => False) w w2) := N1.out.new t2 (fun i e => e.1)
  clear t2
  go_wp2_with fail
  go_ret
  exact ⟨rfl, N2.out⟩
set_option maxRecDepth 100000 in
set_option maxHeartbeats 400000 in
theorem jRecords (a : Option Addr) (n c : Nat) (w : World) : Calls Try.prog 19 #[.slice a n c] w fun e w' => e = .returned (.func (.func 37) #[] #[.pointer (some ⟨w.heap.size, 0, none⟩)]) ∧ w' = w.alloc (.cells #[.slice a n c] 37) := by
  go_enter Try.func19, Try.ntmps19
  go_wp2_with fail
  go_ret
  exact ⟨rfl, rfl⟩
/-- What a file of a journal holds. -/
def Ct (bs : List Nat) (N : Nat) (E : List Nat) : Prop := ∃ a0 b0 a1 b1, bs = hd a0 b0 ++ (hd a1 b1 ++ E) ∧ a0 % 2 = 0 ∧ a1 % 2 = 1 ∧ (a0 = 0 → b0 = 0) ∧ b0 ≤ E.length ∧ b1 ≤ E.length ∧ a0 ≤ N ∧ a1 ≤ N ∧ (if a0 < a1 then b1 else b0) = E.length
set_option maxRecDepth 100000 in
set_option maxHeartbeats 400000 in
theorem jFoundNil (v : Value) (w : World) (h : BS w v []) : Calls Try.prog 20 #[v] w fun e w' => e = .returned (.slice none 0 0) ∧ w' = w := by
  obtain ⟨a, c, rfl⟩ : ∃ a c, v = .slice a 0 c := by
    rcases h.sl with ⟨rfl, _, _⟩ | ⟨x, c, rfl, _, _⟩
    · exact ⟨none, 0, rfl⟩
    · exact ⟨some x, c, rfl⟩
  clear h
  go_enter Try.func20, Try.ntmps20
  go_wp2_with fail
  go_ret
  exact ⟨rfl, rfl⟩
theorem jFoundAny {w : World} {v : Value} {B E : List Nat} {base : Nat} (h : OB w base v B) (hc : B = [] ∧ E = [] ∨ ∃ N, N ≤ 1048576 ∧ Ct B N E) (hE : E.length ≤ 1000000) {B0 : Nat} (hB0 : ∀ x n c, v = .slice (some x) n c → x.block < B0) :
    Calls Try.prog 20 #[v] w fun e w' => (∃ v', e = .returned v' ∧ BL w' B0 v' E) ∧ Mod (fun _ => False) w w' := by
  rcases hc with ⟨rfl, rfl⟩ | ⟨N, hN, a0, b0, a1, b1, rfl, e0, e1, z0, l0, l1, s0, s1, hL⟩
  · refine (jFoundNil v w h.bs).mono ?_
    rintro e w' ⟨rfl, rfl⟩
    exact ⟨⟨_, rfl, ⟨.inl ⟨rfl, rfl, rfl⟩, fun x n c e => by cases e⟩, fun x n c e => by cases e⟩, Mod.refl _ _⟩
  · refine (jFound v a0 b0 a1 b1 E w h.bs e0 e1 z0 l0 l1 (by omega) (by omega) hE hL).mono ?_
    rintro e w' ⟨⟨v', rfl, h2, h3⟩, hm⟩
    refine ⟨⟨v', rfl, h2, fun x n c e => ?_⟩, hm⟩
    obtain ⟨y, n2, c2, hv, hy⟩ := h3 x n c e
    have := hB0 y n2 c2 hv
    omega
set_option maxRecDepth 100000 in
set_option maxHeartbeats 2000000 in
theorem jCompact {base j d m N S C g : Nat} {w : World} {F : FileS} {st wv u : Value} {r : List Nat} (h : JS w base j d F m st wv [] N S C) (hg : Blk w g #[u] 37) (hu : BS w u r) (h1 : 1 ≤ r.length) (h2 : r.length < 128) :
    Calls Try.prog 14 #[.pointer (some ⟨j, 0, none⟩), .slice (some ⟨g, 0, none⟩) 1 1] w fun e w' => e = .returned (.int .i64 0) ∧ (∃ m st wv fb, JS w' base j d ⟨fb, hd 0 0 ++ (hd 1 (1 + r.length) ++ encs [r]), hd 0 0 ++ (hd 1 (1 + r.length) ++ encs [r])⟩ m st wv [] 1 (1 + r.length) (1 + r.length)) ∧ TM tJ base w w' := by
  have c5 := h.jb.cell 5
  have HJ := Lib.hid h
  have hel : (encs [r]).length = 1 + r.length := by simp [encs]; omega
  have HPT : Hid (∀ w' : World, Mod (fun _ => False) w w' → Calls Try.prog 21 #[.pointer (some ⟨j, 0, none⟩), .slice (some ⟨g, 0, none⟩) 1 1] w' fun e w'' => e = .returned (.int .i64 0) ∧ (∃ m st wv fb, JS w'' base j d ⟨fb, hd 0 0 ++ (hd 1 (1 + r.length) ++ encs [r]), hd 0 0 ++ (hd 1 (1 + r.length) ++ encs [r])⟩ m st wv [] 1 (1 + r.length) (1 + r.length)) ∧ TM tJ base w' w'') := fun w' hm => by
    have h' := h.new hm
    have hp := jPut (rs := [r]) (vals := [u]) h'.jb h'.jge h'.dk rfl (by simp) (v := .slice (some ⟨g, 0, none⟩) 1 1) (sl_blk (xs := [u]) (hg.mod hm (fun e => e))) (fun k x y e1 e2 => by
      match k, e1, e2 with
      | 0, e1, e2 => cases e1; cases e2; exact hu.new hm
      | k + 1, e1, e2 => simp at e1) (fun x hx => by simp at hx; subst hx; exact ⟨h1, h2⟩) (by rw [hel]; omega)
    rw [hel] at hp
    exact hp
  have HEN := Lib.hid (fun (w' : World) (hm : Mod (fun _ => False) w w') => jEncoded u r w' (hu.new hm) h2)
  obtain ⟨ua, uc, rfl⟩ := hu.shape
  have HG := Lib.hid (fun (w' : World) (hm : Mod (fun _ => False) w w') => (hg.mod hm (fun e => e)).cell 0)
  obtain ⟨k, hk⟩ : ∃ k, k = r.length := ⟨_, rfl⟩
  rw [← hk] at HPT HG HEN ⊢
  have HK := Lib.hid hk
  have g1 : ¬ ((4096 : Int) < k) := by omega
  have g2 : IntKind.i64.wrap (1 + (k : Int)) = 1 + k := wrapI (by omega) (by omega)
  have g3 : ¬ ((524288 : Int) < 1 + k) := by omega
  clear h hg hu hel hk
  go_enter Try.func14, Try.ntmps14
  go_wp2_with fail
  go_loopw [5, 14] (fun s i wr => Hid (Mod (fun _ => False) w wr) ∧ ((i = .int .i64 0 ∧ s = .int .i64 0) ∨ (i = .int .i64 1 ∧ s = .int .i64 (1 + (k : Int))))) (fun _ i _ => 1 - (intOf i).toNat)
  case atStart => exact ⟨Mod.refl _ _, .inl ⟨rfl, rfl⟩⟩
  case round =>
    obtain ⟨hm, ⟨rfl, rfl⟩ | ⟨rfl, rfl⟩⟩ := hrel
    · have p0 := HG.out wr hm.out
      go_wp2_with fail
      refine (HEN.out wr hm.out).mono ?_; rintro e w2 ⟨v2, rfl, o2, m2⟩
      obtain ⟨a2, c2, rfl, _, _⟩ := o2.len
      have hl2 : (((k :: r).length : Nat) : Int) = 1 + k := by rw [HK.out]; simp; omega
      have M2 := Lib.hid (hm.out.trans m2)
      clear o2 m2
      obtain ⟨q2, hq2⟩ : ∃ q, q = (k :: r).length := ⟨_, rfl⟩
      rw [← hq2] at hl2 ⊢
      clear hq2
      go_wp2_with fail
      exact ⟨⟨M2, .inr ⟨rfl, rfl⟩⟩, by simp [intOf]⟩
    · go_wp2_with fail
      refine (HPT.out wr hm.out).mono ?_; rintro e w3 ⟨rfl, ⟨m', st', wv', fb, hs⟩, t3⟩
      have HB := Lib.hid (jBreaks base j d 1 (1 + k) (1 + k) w3 hs.jb hs.jge)
      have HS := Lib.hid hs
      have T3 := Lib.hid ((TM.new (ts := tJ) (base := base) hm.out).trans t3)
      clear hs t3
      go_wp2_with fail
      refine HB.out.mono ?_; rintro e w4 ⟨rfl, jb4, t4⟩
      have R4 := Lib.hid (And.intro (show JS w4 base j d ⟨fb, hd 0 0 ++ (hd 1 (1 + k) ++ encs [r]), hd 0 0 ++ (hd 1 (1 + k) ++ encs [r])⟩ m' st' wv' [] 1 (1 + k) (1 + k) from ⟨jb4, HS.out.dk.tm t4 (by simp) (by simp [tD]), HS.out.jge⟩) (T3.out.trans (t4.more (by simp [tJ]))))
      clear jb4 t4
      go_wp2_with fail
      go_ret
      exact ⟨rfl, ⟨_, _, _, _, R4.out.1⟩, R4.out.2⟩
end Go.Proofs.Ytdlplablojdjlaa
