/- What the printer writes, kind by kind; partly written by a program (mkcase.py). -/
import Derived.Test.YtdhgdpokdhjanaaGreatMZ3
set_option linter.unusedSimpArgs false
set_option linter.unusedVariables false
namespace Go.Proofs.YtdhgdpokdhjanaaGreat.Abs
open Go

section
variable {N : Nat} {t : List UInt8} {p e : Int} {kv : AVal} {ks : List Nd} {d : Nat}

theorem wr_29 (H : WIH N) (hkv : ndV kv = some ks) (hN : (allL ks).length ≤ N) (hd : d + N + 1 ≤ 1000000) (hok : (Nd.mk 29 t ks).ok = true) (hlen : (txt (.mk 29 t ks) d).length ≤ limit) :
    Call C2 97 [.agg [.int .i64 d], .agg (kid5 29 t p e kv)] ⟨0, []⟩ = some (.str (txt (.mk 29 t ks) d), ⟨0, []⟩) := by
  obtain ⟨s, hs, _, hl, _⟩ := ok_parts hok
  cases hs
  have hl : ks.length = 2 := of_decide_eq_true hl
  obtain ⟨q0, hq0, ht0⟩ := ok_kid hok (i := 0) (by omega)
  cases hq0
  have g0 := kp_expr ht0
  have a0 := txtL_get ks d 0 (by omega)
  obtain ⟨q1, hq1, ht1⟩ := ok_kid hok (i := 1) (by omega)
  cases hq1
  have g1 := kp_expr ht1
  have a1 := txtL_get ks d 1 (by omega)
  have e1 : txt (.mk 29 t ks) d = [kidT 29 t ((0 : Nat) : Int) (ks.getD 0 nd0) (txt (ks.getD 0 nd0) d), [32], t, [32], kidT 29 t ((1 : Nat) : Int) (ks.getD 1 nd0) (txt (ks.getD 1 nd0) d)].flatten := by
    show form 29 t d ks (txtL ks d) = _
    rw [← a0, ← a1]
    rfl
  rw [e1] at hlen ⊢
  exact write_of hkv rfl (u_75 hkv (kwK H hkv hN hok (i := 0) (by omega) (by omega) (by omega) (by omega) (by simp only [List.flatten_cons, List.flatten_nil, List.length_append] at hlen; omega)) (kwK H hkv hN hok (i := 1) (by omega) (by omega) (by omega) (by omega) (by simp only [List.flatten_cons, List.flatten_nil, List.length_append] at hlen; omega)) hlen)
theorem wr_21 (H : WIH N) (hkv : ndV kv = some ks) (hN : (allL ks).length ≤ N) (hd : d + N + 1 ≤ 1000000) (hok : (Nd.mk 21 t ks).ok = true) (hlen : (txt (.mk 21 t ks) d).length ≤ limit) :
    Call C2 97 [.agg [.int .i64 d], .agg (kid5 21 t p e kv)] ⟨0, []⟩ = some (.str (txt (.mk 21 t ks) d), ⟨0, []⟩) := by
  obtain ⟨s, hs, _, hl, _⟩ := ok_parts hok
  cases hs
  have hl : ks.length = 2 := of_decide_eq_true hl
  obtain ⟨q0, hq0, ht0⟩ := ok_kid hok (i := 0) (by omega)
  cases hq0
  have g0 := kp_one1 ht0
  have a0 := txtL_get ks d 0 (by omega)
  obtain ⟨q1, hq1, ht1⟩ := ok_kid hok (i := 1) (by omega)
  cases hq1
  have g1 := kp_expr ht1
  have a1 := txtL_get ks d 1 (by omega)
  have e1 : txt (.mk 21 t ks) d = [kidT 21 t ((0 : Nat) : Int) (ks.getD 0 nd0) (txt (ks.getD 0 nd0) d), [91], kidT 21 t ((1 : Nat) : Int) (ks.getD 1 nd0) (txt (ks.getD 1 nd0) d), [93]].flatten := by
    show form 21 t d ks (txtL ks d) = _
    rw [← a0, ← a1]
    rfl
  rw [e1] at hlen ⊢
  exact write_of hkv rfl (u_84 hkv (kwK H hkv hN hok (i := 0) (by omega) (by omega) (by omega) (by omega) (by simp only [List.flatten_cons, List.flatten_nil, List.length_append] at hlen; omega)) (kwK H hkv hN hok (i := 1) (by omega) (by omega) (by omega) (by omega) (by simp only [List.flatten_cons, List.flatten_nil, List.length_append] at hlen; omega)) hlen)
theorem wr_22 (H : WIH N) (hkv : ndV kv = some ks) (hN : (allL ks).length ≤ N) (hd : d + N + 1 ≤ 1000000) (hok : (Nd.mk 22 t ks).ok = true) (hlen : (txt (.mk 22 t ks) d).length ≤ limit) :
    Call C2 97 [.agg [.int .i64 d], .agg (kid5 22 t p e kv)] ⟨0, []⟩ = some (.str (txt (.mk 22 t ks) d), ⟨0, []⟩) := by
  obtain ⟨s, hs, _, hl, _⟩ := ok_parts hok
  cases hs
  have hl : ks.length = 1 := of_decide_eq_true hl
  obtain ⟨q0, hq0, ht0⟩ := ok_kid hok (i := 0) (by omega)
  cases hq0
  have g0 := kp_one1 ht0
  have a0 := txtL_get ks d 0 (by omega)
  have e1 : txt (.mk 22 t ks) d = [kidT 22 t ((0 : Nat) : Int) (ks.getD 0 nd0) (txt (ks.getD 0 nd0) d), [46], t].flatten := by
    show form 22 t d ks (txtL ks d) = _
    rw [← a0]
    rfl
  rw [e1] at hlen ⊢
  exact write_of hkv rfl (u_89 hkv (kwK H hkv hN hok (i := 0) (by omega) (by omega) (by omega) (by omega) (by simp only [List.flatten_cons, List.flatten_nil, List.length_append] at hlen; omega)) hlen)
theorem wr_23 (H : WIH N) (hkv : ndV kv = some ks) (hN : (allL ks).length ≤ N) (hd : d + N + 1 ≤ 1000000) (hok : (Nd.mk 23 t ks).ok = true) (hlen : (txt (.mk 23 t ks) d).length ≤ limit) :
    Call C2 97 [.agg [.int .i64 d], .agg (kid5 23 t p e kv)] ⟨0, []⟩ = some (.str (txt (.mk 23 t ks) d), ⟨0, []⟩) := by
  obtain ⟨s, hs, _, hl, _⟩ := ok_parts hok
  cases hs
  have hl : ks.length = 1 := of_decide_eq_true hl
  obtain ⟨q0, hq0, ht0⟩ := ok_kid hok (i := 0) (by omega)
  cases hq0
  have g0 := kp_one1 ht0
  have a0 := txtL_get ks d 0 (by omega)
  have e1 : txt (.mk 23 t ks) d = [[108, 101, 110, 40], kidT 23 t ((0 : Nat) : Int) (ks.getD 0 nd0) (txt (ks.getD 0 nd0) d), [41]].flatten := by
    show form 23 t d ks (txtL ks d) = _
    rw [← a0]
    rfl
  rw [e1] at hlen ⊢
  exact write_of hkv rfl (u_86 hkv (kwK H hkv hN hok (i := 0) (by omega) (by omega) (by omega) (by omega) (by simp only [List.flatten_cons, List.flatten_nil, List.length_append] at hlen; omega)) hlen)
theorem wr_18 (H : WIH N) (hkv : ndV kv = some ks) (hN : (allL ks).length ≤ N) (hd : d + N + 1 ≤ 1000000) (hok : (Nd.mk 18 t ks).ok = true) (hlen : (txt (.mk 18 t ks) d).length ≤ limit) :
    Call C2 97 [.agg [.int .i64 d], .agg (kid5 18 t p e kv)] ⟨0, []⟩ = some (.str (txt (.mk 18 t ks) d), ⟨0, []⟩) := by
  obtain ⟨s, hs, _, hl, _⟩ := ok_parts hok
  cases hs
  have hl : ks.length = 1 := of_decide_eq_true hl
  obtain ⟨q0, hq0, ht0⟩ := ok_kid hok (i := 0) (by omega)
  cases hq0
  have g0 := kp_expr ht0
  have a0 := txtL_get ks d 0 (by omega)
  have e1 : txt (.mk 18 t ks) d = [[97, 115, 115, 101, 114, 116, 32], kidT 18 t ((0 : Nat) : Int) (ks.getD 0 nd0) (txt (ks.getD 0 nd0) d), [59]].flatten := by
    show form 18 t d ks (txtL ks d) = _
    rw [← a0]
    rfl
  rw [e1] at hlen ⊢
  exact write_of hkv rfl (u_73 hkv (kwK H hkv hN hok (i := 0) (by omega) (by omega) (by omega) (by omega) (by simp only [List.flatten_cons, List.flatten_nil, List.length_append] at hlen; omega)) hlen)
theorem wr_15 (H : WIH N) (hkv : ndV kv = some ks) (hN : (allL ks).length ≤ N) (hd : d + N + 1 ≤ 1000000) (hok : (Nd.mk 15 t ks).ok = true) (hlen : (txt (.mk 15 t ks) d).length ≤ limit) :
    Call C2 97 [.agg [.int .i64 d], .agg (kid5 15 t p e kv)] ⟨0, []⟩ = some (.str (txt (.mk 15 t ks) d), ⟨0, []⟩) := by
  obtain ⟨s, hs, _, hl, _⟩ := ok_parts hok
  cases hs
  have hl : ks.length = 2 := of_decide_eq_true hl
  obtain ⟨q0, hq0, ht0⟩ := ok_kid hok (i := 0) (by omega)
  cases hq0
  have g0 := kp_expr ht0
  have a0 := txtL_get ks d 0 (by omega)
  obtain ⟨q1, hq1, ht1⟩ := ok_kid hok (i := 1) (by omega)
  cases hq1
  have g1 := kp_one1 ht1
  have a1 := txtL_get ks d 1 (by omega)
  have e1 : txt (.mk 15 t ks) d = [[119, 104, 105, 108, 101, 32], kidT 15 t ((0 : Nat) : Int) (ks.getD 0 nd0) (txt (ks.getD 0 nd0) d), [32], txt (ks.getD 1 nd0) d].flatten := by
    show form 15 t d ks (txtL ks d) = _
    rw [← a0, ← a1]
    rfl
  rw [e1] at hlen ⊢
  exact write_of hkv rfl (u_88 hkv (kwK H hkv hN hok (i := 0) (by omega) (by omega) (by omega) (by omega) (by simp only [List.flatten_cons, List.flatten_nil, List.length_append] at hlen; omega)) (kwX H hN hok (i := 1) (by omega) (by omega) (by omega) (by omega) (by simp only [List.flatten_cons, List.flatten_nil, List.length_append] at hlen; omega)) (by omega) hlen)
theorem wr_16 (H : WIH N) (hkv : ndV kv = some ks) (hN : (allL ks).length ≤ N) (hd : d + N + 1 ≤ 1000000) (hok : (Nd.mk 16 t ks).ok = true) (hlen : (txt (.mk 16 t ks) d).length ≤ limit) :
    Call C2 97 [.agg [.int .i64 d], .agg (kid5 16 t p e kv)] ⟨0, []⟩ = some (.str (txt (.mk 16 t ks) d), ⟨0, []⟩) := by
  obtain ⟨s, hs, _, hl, _⟩ := ok_parts hok
  cases hs
  have hl : ks.length = 3 := of_decide_eq_true hl
  obtain ⟨q0, hq0, ht0⟩ := ok_kid hok (i := 0) (by omega)
  cases hq0
  have g0 := kp_expr ht0
  have a0 := txtL_get ks d 0 (by omega)
  obtain ⟨q1, hq1, ht1⟩ := ok_kid hok (i := 1) (by omega)
  cases hq1
  have g1 := kp_expr ht1
  have a1 := txtL_get ks d 1 (by omega)
  obtain ⟨q2, hq2, ht2⟩ := ok_kid hok (i := 2) (by omega)
  cases hq2
  have g2 := kp_one1 ht2
  have a2 := txtL_get ks d 2 (by omega)
  have e1 : txt (.mk 16 t ks) d = [[102, 111, 114, 32], t, [32, 61, 32], kidT 16 t ((0 : Nat) : Int) (ks.getD 0 nd0) (txt (ks.getD 0 nd0) d), [32, 116, 111, 32], kidT 16 t ((1 : Nat) : Int) (ks.getD 1 nd0) (txt (ks.getD 1 nd0) d), [32], txt (ks.getD 2 nd0) d].flatten := by
    show form 16 t d ks (txtL ks d) = _
    rw [← a0, ← a1, ← a2]
    rfl
  rw [e1] at hlen ⊢
  exact write_of hkv rfl (u_80 hkv (kwK H hkv hN hok (i := 0) (by omega) (by omega) (by omega) (by omega) (by simp only [List.flatten_cons, List.flatten_nil, List.length_append] at hlen; omega)) (kwK H hkv hN hok (i := 1) (by omega) (by omega) (by omega) (by omega) (by simp only [List.flatten_cons, List.flatten_nil, List.length_append] at hlen; omega)) (kwX H hN hok (i := 2) (by omega) (by omega) (by omega) (by omega) (by simp only [List.flatten_cons, List.flatten_nil, List.length_append] at hlen; omega)) (by omega) hlen)
theorem wr_12 (H : WIH N) (hkv : ndV kv = some ks) (hN : (allL ks).length ≤ N) (hd : d + N + 1 ≤ 1000000) (hok : (Nd.mk 12 t ks).ok = true) (hlen : (txt (.mk 12 t ks) d).length ≤ limit) :
    Call C2 97 [.agg [.int .i64 d], .agg (kid5 12 t p e kv)] ⟨0, []⟩ = some (.str (txt (.mk 12 t ks) d), ⟨0, []⟩) := by
  obtain ⟨s, hs, _, hl, _⟩ := ok_parts hok
  cases hs
  have hl : ks.length = 2 := of_decide_eq_true hl
  obtain ⟨q0, hq0, ht0⟩ := ok_kid hok (i := 0) (by omega)
  cases hq0
  have g0 := (kp_opt ht0).imp id kp_typ
  have a0 := txtL_get ks d 0 (by omega)
  obtain ⟨q1, hq1, ht1⟩ := ok_kid hok (i := 1) (by omega)
  cases hq1
  have g1 := kp_expr ht1
  have a1 := txtL_get ks d 1 (by omega)
  have e1 : txt (.mk 12 t ks) d = [[118, 97, 114, 32], t, wrT (ks.getD 0 nd0) (txt (ks.getD 0 nd0) d), [32, 61, 32], kidT 12 t ((1 : Nat) : Int) (ks.getD 1 nd0) (txt (ks.getD 1 nd0) d), [59]].flatten := by
    show form 12 t d ks (txtL ks d) = _
    rw [← a0, ← a1]
    rfl
  rw [e1] at hlen ⊢
  exact write_of hkv rfl (u_81 hkv (kwW H hN hok (i := 0) (by omega) (by omega) (by omega) (by simp only [List.flatten_cons, List.flatten_nil, List.length_append] at hlen; omega)) (kwK H hkv hN hok (i := 1) (by omega) (by omega) (by omega) (by omega) (by simp only [List.flatten_cons, List.flatten_nil, List.length_append] at hlen; omega)) (by omega) hlen)
theorem wr_13 (H : WIH N) (hkv : ndV kv = some ks) (hN : (allL ks).length ≤ N) (hd : d + N + 1 ≤ 1000000) (hok : (Nd.mk 13 t ks).ok = true) (hlen : (txt (.mk 13 t ks) d).length ≤ limit) :
    Call C2 97 [.agg [.int .i64 d], .agg (kid5 13 t p e kv)] ⟨0, []⟩ = some (.str (txt (.mk 13 t ks) d), ⟨0, []⟩) := by
  obtain ⟨s, hs, _, hl, _⟩ := ok_parts hok
  cases hs
  have hl : ks.length = 2 := of_decide_eq_true hl
  obtain ⟨q0, hq0, ht0⟩ := ok_kid hok (i := 0) (by omega)
  cases hq0
  have g0 := kp_place ht0
  have a0 := txtL_get ks d 0 (by omega)
  obtain ⟨q1, hq1, ht1⟩ := ok_kid hok (i := 1) (by omega)
  cases hq1
  have g1 := kp_expr ht1
  have a1 := txtL_get ks d 1 (by omega)
  have e1 : txt (.mk 13 t ks) d = [kidT 13 t ((0 : Nat) : Int) (ks.getD 0 nd0) (txt (ks.getD 0 nd0) d), [32, 61, 32], kidT 13 t ((1 : Nat) : Int) (ks.getD 1 nd0) (txt (ks.getD 1 nd0) d), [59]].flatten := by
    show form 13 t d ks (txtL ks d) = _
    rw [← a0, ← a1]
    rfl
  rw [e1] at hlen ⊢
  exact write_of hkv rfl (u_74 hkv (kwK H hkv hN hok (i := 0) (by omega) (by omega) (by omega) (by omega) (by simp only [List.flatten_cons, List.flatten_nil, List.length_append] at hlen; omega)) (kwK H hkv hN hok (i := 1) (by omega) (by omega) (by omega) (by omega) (by simp only [List.flatten_cons, List.flatten_nil, List.length_append] at hlen; omega)) hlen)
theorem wr_4 (H : WIH N) (hkv : ndV kv = some ks) (hN : (allL ks).length ≤ N) (hd : d + N + 1 ≤ 1000000) (hok : (Nd.mk 4 t ks).ok = true) (hlen : (txt (.mk 4 t ks) d).length ≤ limit) :
    Call C2 97 [.agg [.int .i64 d], .agg (kid5 4 t p e kv)] ⟨0, []⟩ = some (.str (txt (.mk 4 t ks) d), ⟨0, []⟩) := by
  obtain ⟨s, hs, _, hl, _⟩ := ok_parts hok
  cases hs
  have hl : ks.length = 1 := of_decide_eq_true hl
  obtain ⟨q0, hq0, ht0⟩ := ok_kid hok (i := 0) (by omega)
  cases hq0
  have g0 := kp_one1 ht0
  have a0 := txtL_get ks d 0 (by omega)
  have e1 : txt (.mk 4 t ks) d = [t, wrT (ks.getD 0 nd0) (txt (ks.getD 0 nd0) d)].flatten := by
    show form 4 t d ks (txtL ks d) = _
    rw [← a0]
    rfl
  rw [e1] at hlen ⊢
  exact write_of hkv rfl (u_94 hkv (kwW H hN hok (i := 0) (by omega) (by omega) (by omega) (by simp only [List.flatten_cons, List.flatten_nil, List.length_append] at hlen; omega)) (by omega) hlen)
theorem wr_7 (H : WIH N) (hkv : ndV kv = some ks) (hN : (allL ks).length ≤ N) (hd : d + N + 1 ≤ 1000000) (hok : (Nd.mk 7 t ks).ok = true) (hlen : (txt (.mk 7 t ks) d).length ≤ limit) :
    Call C2 97 [.agg [.int .i64 d], .agg (kid5 7 t p e kv)] ⟨0, []⟩ = some (.str (txt (.mk 7 t ks) d), ⟨0, []⟩) := by
  obtain ⟨s, hs, _, hl, _⟩ := ok_parts hok
  cases hs
  have hl : ks.length = 1 := of_decide_eq_true hl
  obtain ⟨q0, hq0, ht0⟩ := ok_kid hok (i := 0) (by omega)
  cases hq0
  have g0 := (kp_opt ht0).imp id kp_typ
  have a0 := txtL_get ks d 0 (by omega)
  have e1 : txt (.mk 7 t ks) d = [t, wrT (ks.getD 0 nd0) (txt (ks.getD 0 nd0) d)].flatten := by
    show form 7 t d ks (txtL ks d) = _
    rw [← a0]
    rfl
  rw [e1] at hlen ⊢
  exact write_of hkv rfl (u_94 hkv (kwW H hN hok (i := 0) (by omega) (by omega) (by omega) (by simp only [List.flatten_cons, List.flatten_nil, List.length_append] at hlen; omega)) (by omega) hlen)
theorem wr_9 (H : WIH N) (hkv : ndV kv = some ks) (hN : (allL ks).length ≤ N) (hd : d + N + 1 ≤ 1000000) (hok : (Nd.mk 9 t ks).ok = true) (hlen : (txt (.mk 9 t ks) d).length ≤ limit) :
    Call C2 97 [.agg [.int .i64 d], .agg (kid5 9 t p e kv)] ⟨0, []⟩ = some (.str (txt (.mk 9 t ks) d), ⟨0, []⟩) := by
  exact write_of hkv rfl u_96
theorem wr_20 (H : WIH N) (hkv : ndV kv = some ks) (hN : (allL ks).length ≤ N) (hd : d + N + 1 ≤ 1000000) (hok : (Nd.mk 20 t ks).ok = true) (hlen : (txt (.mk 20 t ks) d).length ≤ limit) :
    Call C2 97 [.agg [.int .i64 d], .agg (kid5 20 t p e kv)] ⟨0, []⟩ = some (.str (txt (.mk 20 t ks) d), ⟨0, []⟩) := by
  exact write_of hkv rfl u_96
theorem wr_24 (H : WIH N) (hkv : ndV kv = some ks) (hN : (allL ks).length ≤ N) (hd : d + N + 1 ≤ 1000000) (hok : (Nd.mk 24 t ks).ok = true) (hlen : (txt (.mk 24 t ks) d).length ≤ limit) :
    Call C2 97 [.agg [.int .i64 d], .agg (kid5 24 t p e kv)] ⟨0, []⟩ = some (.str (txt (.mk 24 t ks) d), ⟨0, []⟩) := by
  exact write_of hkv rfl u_96
theorem wr_25 (H : WIH N) (hkv : ndV kv = some ks) (hN : (allL ks).length ≤ N) (hd : d + N + 1 ≤ 1000000) (hok : (Nd.mk 25 t ks).ok = true) (hlen : (txt (.mk 25 t ks) d).length ≤ limit) :
    Call C2 97 [.agg [.int .i64 d], .agg (kid5 25 t p e kv)] ⟨0, []⟩ = some (.str (txt (.mk 25 t ks) d), ⟨0, []⟩) := by
  exact write_of hkv rfl u_96
theorem wr_10 (H : WIH N) (hkv : ndV kv = some ks) (hN : (allL ks).length ≤ N) (hd : d + N + 1 ≤ 1000000) (hok : (Nd.mk 10 t ks).ok = true) (hlen : (txt (.mk 10 t ks) d).length ≤ limit) :
    Call C2 97 [.agg [.int .i64 d], .agg (kid5 10 t p e kv)] ⟨0, []⟩ = some (.str (txt (.mk 10 t ks) d), ⟨0, []⟩) := by
  exact write_of hkv rfl (u_72 hkv hlen)
theorem wr_26 (H : WIH N) (hkv : ndV kv = some ks) (hN : (allL ks).length ≤ N) (hd : d + N + 1 ≤ 1000000) (hok : (Nd.mk 26 t ks).ok = true) (hlen : (txt (.mk 26 t ks) d).length ≤ limit) :
    Call C2 97 [.agg [.int .i64 d], .agg (kid5 26 t p e kv)] ⟨0, []⟩ = some (.str (txt (.mk 26 t ks) d), ⟨0, []⟩) := by
  have e1 : txt (.mk 26 t ks) d = [[91], allT 26 t ks (txtL ks d), [93]].flatten := rfl
  rw [e1] at hlen ⊢
  exact write_of hkv rfl (u_87 hkv (kwA H hkv hN hok (fun i hi => by have := kp_expr (list_kinds (q := .expr) hok (fun _ => rfl) i hi); omega) (by omega) (by simp only [List.flatten_cons, List.flatten_nil, List.length_append] at hlen; omega)) hlen)
theorem wr_27 (H : WIH N) (hkv : ndV kv = some ks) (hN : (allL ks).length ≤ N) (hd : d + N + 1 ≤ 1000000) (hok : (Nd.mk 27 t ks).ok = true) (hlen : (txt (.mk 27 t ks) d).length ≤ limit) :
    Call C2 97 [.agg [.int .i64 d], .agg (kid5 27 t p e kv)] ⟨0, []⟩ = some (.str (txt (.mk 27 t ks) d), ⟨0, []⟩) := by
  have e1 : txt (.mk 27 t ks) d = [t, [40], allT 27 t ks (txtL ks d), [41]].flatten := rfl
  rw [e1] at hlen ⊢
  exact write_of hkv rfl (u_77 hkv (kwA H hkv hN hok (fun i hi => by have := kp_expr (list_kinds (q := .expr) hok (fun _ => rfl) i hi); omega) (by omega) (by simp only [List.flatten_cons, List.flatten_nil, List.length_append] at hlen; omega)) hlen)
theorem wr_3 (H : WIH N) (hkv : ndV kv = some ks) (hN : (allL ks).length ≤ N) (hd : d + N + 1 ≤ 1000000) (hok : (Nd.mk 3 t ks).ok = true) (hlen : (txt (.mk 3 t ks) d).length ≤ limit) :
    Call C2 97 [.agg [.int .i64 d], .agg (kid5 3 t p e kv)] ⟨0, []⟩ = some (.str (txt (.mk 3 t ks) d), ⟨0, []⟩) := by
  have e1 : txt (.mk 3 t ks) d = [[114, 101, 99, 111, 114, 100, 32], t, [32, 123, 32], allT 3 t ks (txtL ks d), [32, 125]].flatten := rfl
  rw [e1] at hlen ⊢
  exact write_of hkv rfl (u_92 hkv (kwA H hkv hN hok (fun i hi => by have := kp_one1 (list_kinds (q := (.one [4])) hok (fun _ => rfl) i hi); omega) (by omega) (by simp only [List.flatten_cons, List.flatten_nil, List.length_append] at hlen; omega)) hlen)
theorem wr_19 (H : WIH N) (hkv : ndV kv = some ks) (hN : (allL ks).length ≤ N) (hd : d + N + 1 ≤ 1000000) (hok : (Nd.mk 19 t ks).ok = true) (hlen : (txt (.mk 19 t ks) d).length ≤ limit) :
    Call C2 97 [.agg [.int .i64 d], .agg (kid5 19 t p e kv)] ⟨0, []⟩ = some (.str (txt (.mk 19 t ks) d), ⟨0, []⟩) := by
  have e1 : txt (.mk 19 t ks) d = [[t, [40], allT 19 t ks (txtL ks d), [41]].flatten, [59]].flatten := rfl
  rw [e1] at hlen ⊢
  have hA := kwA (p := p) (e := e) (d := d) H hkv hN hok (fun i hi => by have := kp_expr (list_kinds (q := .expr) hok (fun _ => rfl) i hi); omega) (by omega) (by simp only [List.flatten_cons, List.flatten_nil, List.length_append] at hlen; omega)
  exact write_of hkv rfl (u_82 hkv (w_77 hkv hA (by simp only [List.flatten_cons, List.flatten_nil, List.length_append] at hlen ⊢; omega)) hlen)
theorem wr_8 (H : WIH N) (hkv : ndV kv = some ks) (hN : (allL ks).length ≤ N) (hd : d + N + 1 ≤ 1000000) (hok : (Nd.mk 8 t ks).ok = true) (hlen : (txt (.mk 8 t ks) d).length ≤ limit) :
    Call C2 97 [.agg [.int .i64 d], .agg (kid5 8 t p e kv)] ⟨0, []⟩ = some (.str (txt (.mk 8 t ks) d), ⟨0, []⟩) := by
  obtain ⟨s, hs, _, hl, _⟩ := ok_parts hok
  cases hs
  have hl : ks.length = 1 := of_decide_eq_true hl
  obtain ⟨q0, hq0, ht0⟩ := ok_kid hok (i := 0) (by omega)
  cases hq0
  have g0 := (kp_opt ht0).imp id kp_typ
  have a0 := txtL_get ks d 0 (by omega)
  have e1 : txt (.mk 8 t ks) d = [[118, 97, 114, 32], [t, wrT (ks.getD 0 nd0) (txt (ks.getD 0 nd0) d)].flatten].flatten := by
    show form 8 t d ks (txtL ks d) = _
    rw [← a0]
    rfl
  rw [e1] at hlen ⊢
  exact write_of hkv rfl (u_78 hkv (w_94 hkv (kwW H hN hok (i := 0) (by omega) (by omega) (by omega) (by simp only [List.flatten_cons, List.flatten_nil, List.length_append] at hlen; omega)) (by omega) (by simp only [List.flatten_cons, List.flatten_nil, List.length_append] at hlen ⊢; omega)) hlen)
theorem wr_28 (H : WIH N) (hkv : ndV kv = some ks) (hN : (allL ks).length ≤ N) (hd : d + N + 1 ≤ 1000000) (hok : (Nd.mk 28 t ks).ok = true) (hlen : (txt (.mk 28 t ks) d).length ≤ limit) :
    Call C2 97 [.agg [.int .i64 d], .agg (kid5 28 t p e kv)] ⟨0, []⟩ = some (.str (txt (.mk 28 t ks) d), ⟨0, []⟩) := by
  obtain ⟨s, hs, _, hl, _⟩ := ok_parts hok
  cases hs
  have hl : ks.length = 1 := of_decide_eq_true hl
  obtain ⟨q0, hq0, ht0⟩ := ok_kid hok (i := 0) (by omega)
  cases hq0
  have g0 := kp_expr ht0
  have a0 := txtL_get ks d 0 (by omega)
  have e1 : txt (.mk 28 t ks) d = if t = [110, 111, 116] then [[110, 111, 116, 32], kidT 28 t ((0 : Nat) : Int) (ks.getD 0 nd0) (txt (ks.getD 0 nd0) d)].flatten else [t, kidT 28 t ((0 : Nat) : Int) (ks.getD 0 nd0) (txt (ks.getD 0 nd0) d)].flatten := by
    show form 28 t d ks (txtL ks d) = _
    rw [← a0]
    rfl
  rw [e1] at hlen ⊢
  exact write_of hkv rfl (u_95 hkv (kwK H hkv hN hok (i := 0) (by omega) (by omega) (by omega) (by omega) (by split at hlen <;> simp only [List.flatten_cons, List.flatten_nil, List.length_append] at hlen <;> omega)) hlen)
theorem wr_17 (H : WIH N) (hkv : ndV kv = some ks) (hN : (allL ks).length ≤ N) (hd : d + N + 1 ≤ 1000000) (hok : (Nd.mk 17 t ks).ok = true) (hlen : (txt (.mk 17 t ks) d).length ≤ limit) :
    Call C2 97 [.agg [.int .i64 d], .agg (kid5 17 t p e kv)] ⟨0, []⟩ = some (.str (txt (.mk 17 t ks) d), ⟨0, []⟩) := by
  obtain ⟨s, hs, _, hl, _⟩ := ok_parts hok
  cases hs
  have hl : ks.length = 1 := of_decide_eq_true hl
  obtain ⟨q0, hq0, ht0⟩ := ok_kid hok (i := 0) (by omega)
  cases hq0
  have g0 := (kp_opt ht0).imp id kp_expr
  have a0 := txtL_get ks d 0 (by omega)
  have e1 : txt (.mk 17 t ks) d = if (ks.getD 0 nd0).kind = 0 then [114, 101, 116, 117, 114, 110, 59] else [[114, 101, 116, 117, 114, 110, 32], kidT 17 t ((0 : Nat) : Int) (ks.getD 0 nd0) (txt (ks.getD 0 nd0) d), [59]].flatten := by
    show form 17 t d ks (txtL ks d) = _
    rw [← a0]
    rfl
  rw [e1] at hlen ⊢
  exact write_of hkv rfl (u_93 hkv (by omega) (fun h0 => kwK H hkv hN hok (i := 0) (by omega) (by omega) (by omega) (by omega) (by rw [if_neg h0] at hlen; simp only [List.flatten_cons, List.flatten_nil, List.length_append] at hlen; omega)) hlen)
theorem wr_14 (H : WIH N) (hkv : ndV kv = some ks) (hN : (allL ks).length ≤ N) (hd : d + N + 1 ≤ 1000000) (hok : (Nd.mk 14 t ks).ok = true) (hlen : (txt (.mk 14 t ks) d).length ≤ limit) :
    Call C2 97 [.agg [.int .i64 d], .agg (kid5 14 t p e kv)] ⟨0, []⟩ = some (.str (txt (.mk 14 t ks) d), ⟨0, []⟩) := by
  obtain ⟨s, hs, _, hl, _⟩ := ok_parts hok
  cases hs
  have hl : ks.length = 3 := of_decide_eq_true hl
  obtain ⟨q0, hq0, ht0⟩ := ok_kid hok (i := 0) (by omega)
  cases hq0
  have g0 := kp_expr ht0
  obtain ⟨q1, hq1, ht1⟩ := ok_kid hok (i := 1) (by omega)
  cases hq1
  have g1 := kp_one1 ht1
  obtain ⟨q2, hq2, ht2⟩ := ok_kid hok (i := 2) (by omega)
  cases hq2
  have g2 := (kp_opt ht2).imp id kp_one2
  have a0 := txtL_get ks d 0 (by omega)
  have a1 := txtL_get ks d 1 (by omega)
  have a2 := txtL_get ks d 2 (by omega)
  have e1 : txt (.mk 14 t ks) d = if (ks.getD 2 nd0).kind = 0 then [[105, 102, 32], kidT 14 t ((0 : Nat) : Int) (ks.getD 0 nd0) (txt (ks.getD 0 nd0) d), [32], txt (ks.getD 1 nd0) d].flatten else [[[105, 102, 32], kidT 14 t ((0 : Nat) : Int) (ks.getD 0 nd0) (txt (ks.getD 0 nd0) d), [32], txt (ks.getD 1 nd0) d].flatten, [32, 101, 108, 115, 101, 32], txt (ks.getD 2 nd0) d].flatten := by
    show form 14 t d ks (txtL ks d) = _
    rw [← a0, ← a1, ← a2]
    rfl
  rw [e1] at hlen ⊢
  have b0 : (kidT 14 t ((0 : Nat) : Int) (ks.getD 0 nd0) (txt (ks.getD 0 nd0) d)).length ≤ limit ∧ (txt (ks.getD 1 nd0) d).length ≤ limit ∧ ((ks.getD 2 nd0).kind ≠ 0 → (txt (ks.getD 2 nd0) d).length ≤ limit) := by
    by_cases h0 : (ks.getD 2 nd0).kind = 0
    · rw [if_pos h0] at hlen
      simp only [List.flatten_cons, List.flatten_nil, List.length_append] at hlen
      exact ⟨by omega, by omega, fun h => absurd h0 h⟩
    · rw [if_neg h0] at hlen
      simp only [List.flatten_cons, List.flatten_nil, List.length_append] at hlen
      exact ⟨by omega, by omega, fun _ => by omega⟩
  exact write_of hkv rfl (u_79 hkv (by omega) (kwK H hkv hN hok (i := 0) (by omega) (by omega) (by omega) (by omega) b0.1) (kwX H hN hok (i := 1) (by omega) (by omega) (by omega) (by omega) b0.2.1) (fun h0 => kwX H hN hok (i := 2) (by omega) h0 (by omega) (by omega) (b0.2.2 h0)) hlen)
theorem wr_5 (H : WIH N) (hkv : ndV kv = some ks) (hN : (allL ks).length ≤ N) (hd : d + N + 1 ≤ 1000000) (hok : (Nd.mk 5 t ks).ok = true) (hlen : (txt (.mk 5 t ks) d).length ≤ limit) :
    Call C2 97 [.agg [.int .i64 d], .agg (kid5 5 t p e kv)] ⟨0, []⟩ = some (.str (txt (.mk 5 t ks) d), ⟨0, []⟩) := by
  obtain ⟨s, hs, _, hl, _⟩ := ok_parts hok
  cases hs
  have hl : ks.length = 3 := of_decide_eq_true hl
  obtain ⟨q0, hq0, ht0⟩ := ok_kid hok (i := 0) (by omega)
  cases hq0
  have g0 := kp_one1 ht0
  obtain ⟨q1, hq1, ht1⟩ := ok_kid hok (i := 1) (by omega)
  cases hq1
  have g1 := (kp_opt ht1).imp id kp_typ
  obtain ⟨q2, hq2, ht2⟩ := ok_kid hok (i := 2) (by omega)
  cases hq2
  have g2 := kp_one1 ht2
  have a0 := txtL_get ks d 0 (by omega)
  have a1 := txtL_get ks d 1 (by omega)
  have a2 := txtL_get ks d 2 (by omega)
  have e1 : txt (.mk 5 t ks) d = [[112, 114, 111, 99, 32], t, [40], txt (ks.getD 0 nd0) d, [41], wrT (ks.getD 1 nd0) (txt (ks.getD 1 nd0) d), [32], txt (ks.getD 2 nd0) d].flatten := by
    show form 5 t d ks (txtL ks d) = _
    rw [← a0, ← a1, ← a2]
    rfl
  rw [e1] at hlen ⊢
  have hb0 : (txt (ks.getD 0 nd0) d).length ≤ limit := (by simp only [List.flatten_cons, List.flatten_nil, List.length_append] at hlen; omega)
  have hA0 : KidW 71 d ks kv 0 (txt (ks.getD 0 nd0) d) := by
    intro cs o k2 t2 p2 e2 kv2 ks2 _ hnd hkv2 _
    have h1 := ok_sub hok (i := 0) (by omega)
    have h2 := kids_len (getD_mem (ks := ks) (i := 0) (by omega))
    rw [hnd] at g0 h1 h2 hb0 ⊢
    have g0 : k2 = 6 := g0
    subst g0
    simp only [Nd.all, List.length_cons] at h2
    exact kwA H hkv2 (by omega) h1 (fun i hi => by have := kp_one2 (list_kinds (q := .one [7, 8]) h1 (fun _ => rfl) i hi); omega) (by omega) hb0
  exact write_of hkv rfl (u_90 hkv hA0 (kwW H hN hok (i := 1) (by omega) (by omega) (by omega) (by simp only [List.flatten_cons, List.flatten_nil, List.length_append] at hlen; omega)) (kwX H hN hok (i := 2) (by omega) (by omega) (by omega) (by omega) (by simp only [List.flatten_cons, List.flatten_nil, List.length_append] at hlen; omega)) (by omega) hlen)
theorem wr_11 (H : WIH N) (hkv : ndV kv = some ks) (hN : (allL ks).length ≤ N) (hd : d + N + 1 ≤ 1000000) (hok : (Nd.mk 11 t ks).ok = true) (hlen : (txt (.mk 11 t ks) d).length ≤ limit) :
    Call C2 97 [.agg [.int .i64 d], .agg (kid5 11 t p e kv)] ⟨0, []⟩ = some (.str (txt (.mk 11 t ks) d), ⟨0, []⟩) := by
  have e1 : txt (.mk 11 t ks) d = [123, 10] ++ (((List.range' 0 ks.length).flatMap fun i => lineT d (txt (ks.getD i nd0) (d + 1))) ++ [indT d, [125]].flatten) := by
    show form 11 t d ks (txtL ks (d + 1)) = _
    show [123, 10] ++ (((txtL ks (d + 1)).flatMap fun s => indT (d + 1) ++ (s ++ [10])) ++ (indT d ++ [125])) = _
    rw [flatMap_range]
    simp [lineT]
  rw [e1] at hlen ⊢
  refine write_of hkv rfl (u_76 hkv (by omega) (fun i hi => ?_) hlen)
  have g := kp_stmt (list_kinds (q := .stmt) hok (fun _ => rfl) i hi)
  refine kwX H hN hok hi (by omega) (by omega) (by omega) ?_
  have hm := flatMap_len (g := fun i => lineT d (txt (ks.getD i nd0) (d + 1))) (List.mem_range'_1.2 (⟨Nat.zero_le i, by omega⟩ : 0 ≤ i ∧ i < 0 + ks.length))
  simp only [List.length_append] at hlen
  simp only [lineT, List.flatten_cons, List.length_append] at hm hlen
  omega
theorem wr_2 (H : WIH N) (hkv : ndV kv = some ks) (hN : (allL ks).length ≤ N) (hd : d + N + 1 ≤ 1000000) (hok : (Nd.mk 2 t ks).ok = true) (hlen : (txt (.mk 2 t ks) d).length ≤ limit) :
    Call C2 97 [.agg [.int .i64 d], .agg (kid5 2 t p e kv)] ⟨0, []⟩ = some (.str (txt (.mk 2 t ks) d), ⟨0, []⟩) := by
  have e1 : txt (.mk 2 t ks) d = (List.range' 0 ks.length).flatMap fun i => [txt (ks.getD i nd0) d, [10]].flatten := by
    show form 2 t d ks (txtL ks d) = _
    show (txtL ks d).flatMap (· ++ [10]) = _
    rw [flatMap_range]
    simp
  rw [e1] at hlen ⊢
  refine write_of hkv rfl (u_91 hkv (fun i hi => ?_) hlen)
  have g := kp_one2 (list_kinds (q := .one [3, 5]) hok (fun _ => rfl) i hi)
  refine kwX H hN hok hi (by omega) (by omega) (by omega) ?_
  have hm := flatMap_len (g := fun i => [txt (ks.getD i nd0) d, [10]].flatten) (List.mem_range'_1.2 (⟨Nat.zero_le i, by omega⟩ : 0 ≤ i ∧ i < 0 + ks.length))
  simp only [List.flatten_cons, List.length_append] at hm hlen
  omega

/-- What the printer writes. -/
theorem write_is : ∀ N, WIH N
  | 0, k, t, ks, _, h, _, _, _, _, _ => by have := all_pos (.mk k t ks); omega
  | N + 1, k, t, ks, d, h, hok, h0, h6, hd, hlen => by
    intro p e kv hkv
    have H := write_is N
    simp only [Nd.all, List.length_cons] at h
    have hN : (allL ks).length ≤ N := by omega
    have hd : d + N + 1 ≤ 1000000 := by omega
    have h1 : k ≠ 1 ∧ 0 ≤ k ∧ k ≤ 29 := by
      obtain ⟨s, hs, _⟩ := ok_parts hok
      by_cases hc : k < 0 ∨ k = 1 ∨ 29 < k
      · rw [lookK_none hc] at hs; cases hs
      · omega
    have hk : k ∈ ([2, 3, 4, 5, 7, 8, 9, 10, 11, 12, 13, 14, 15, 16, 17, 18, 19, 20, 21, 22, 23, 24, 25, 26, 27, 28, 29] : List Int) := by
      simp only [List.mem_cons, List.not_mem_nil, or_false]
      omega
    simp only [List.mem_cons, List.not_mem_nil, or_false] at hk
    rcases hk with rfl | rfl | rfl | rfl | rfl | rfl | rfl | rfl | rfl | rfl | rfl | rfl | rfl | rfl | rfl | rfl | rfl | rfl | rfl | rfl | rfl | rfl | rfl | rfl | rfl | rfl | rfl
    · exact wr_2 H hkv hN hd hok hlen
    · exact wr_3 H hkv hN hd hok hlen
    · exact wr_4 H hkv hN hd hok hlen
    · exact wr_5 H hkv hN hd hok hlen
    · exact wr_7 H hkv hN hd hok hlen
    · exact wr_8 H hkv hN hd hok hlen
    · exact wr_9 H hkv hN hd hok hlen
    · exact wr_10 H hkv hN hd hok hlen
    · exact wr_11 H hkv hN hd hok hlen
    · exact wr_12 H hkv hN hd hok hlen
    · exact wr_13 H hkv hN hd hok hlen
    · exact wr_14 H hkv hN hd hok hlen
    · exact wr_15 H hkv hN hd hok hlen
    · exact wr_16 H hkv hN hd hok hlen
    · exact wr_17 H hkv hN hd hok hlen
    · exact wr_18 H hkv hN hd hok hlen
    · exact wr_19 H hkv hN hd hok hlen
    · exact wr_20 H hkv hN hd hok hlen
    · exact wr_21 H hkv hN hd hok hlen
    · exact wr_22 H hkv hN hd hok hlen
    · exact wr_23 H hkv hN hd hok hlen
    · exact wr_24 H hkv hN hd hok hlen
    · exact wr_25 H hkv hN hd hok hlen
    · exact wr_26 H hkv hN hd hok hlen
    · exact wr_27 H hkv hN hd hok hlen
    · exact wr_28 H hkv hN hd hok hlen
    · exact wr_29 H hkv hN hd hok hlen
end
end Go.Proofs.YtdhgdpokdhjanaaGreat.Abs
