/- Tuples: the cost that most have; Of. -/
import Derived.Test.YtahhkeljejfgfaaUl
namespace Go.Proofs.Ytahhkeljejfgfaa
open Go Go.Vc Go.RowKit Go.Proofs Go.Proofs.Try
set_option maxRecDepth 100000

/-- the cost that most have; the least of several -/
def IsMost (cs : List Int) (o : Int) : Prop := o ∈ cs ∧ ∀ d ∈ cs, cs.count d < cs.count o ∨ (cs.count d = cs.count o ∧ o ≤ d)
theorem IsMost.uniq {cs : List Int} {a b : Int} (ha : IsMost cs a) (hb : IsMost cs b) : a = b := by
  have h1 := ha.2 b hb.1
  have h2 := hb.2 a ha.1
  omega
theorem count_snoc {l : List Int} {i : Nat} {x : Int} (h : l[i]? = some x) (y : Int) : (l.take (i + 1)).count y = (l.take i).count y + if y = x then 1 else 0 := by
  rw [List.take_add_one, h, List.count_append]
  congr 1
  simp only [Option.toList_some, List.count_singleton]
  by_cases hyx : y = x
  · subst hyx; simp
  · rw [if_neg hyx, if_neg (by simpa using fun h => hyx h.symm)]

def kvI (p : Int × Int) : Value × Value := (.int .i64 p.1, .int .i64 p.2)
theorem keysI : Keys prog T.t_int64 fun v => ∃ n, v = .int .i64 n := Keys.int T.t_int64.u
theorem goodI (E : List (Int × Int)) : ∀ p ∈ E.map kvI, ∃ n, p.1 = .int .i64 n := fun p hp => by
  obtain ⟨q, _, rfl⟩ := List.mem_map.1 hp
  exact ⟨_, rfl⟩

/-- how often each of them -/
def Cnts (cs : List Int) (E : List (Int × Int)) : Prop := (∀ x, x ∈ E.map (·.1) ↔ x ∈ cs) ∧ ∀ p ∈ E, p.2 = (cs.count p.1 : Nat)
theorem cnts_at {cs : List Int} {E : List (Int × Int)} (h : Cnts cs E) {x : Int} (hx : x ∈ cs) : ∃ j : Nat, E[j]? = some (x, ((cs.count x : Nat) : Int)) := by
  obtain ⟨p, hp, rfl⟩ := List.mem_map.1 ((h.1 x).2 hx)
  obtain ⟨j, hj⟩ := List.mem_iff_getElem?.1 hp
  exact ⟨j, by rw [hj, ← h.2 p hp]⟩

set_option maxHeartbeats 1600000 in
theorem uMost {w : World} {lv : Value} {cs : List Int} (h : LS .i64 w lv cs) (h0 : cs ≠ []) (hlen : cs.length ≤ 1000000) : Cal prog F.tuples_most [lv] w fun v w' => Ext w w' ∧ ∃ o, v = .int .i64 o ∧ IsMost cs o := by
  apply tuples_most.enter
  unfold tuples_most.body
  refine RunC.ns (make_map fun m w1 hm hx1 hmap hn1 => ?_)
  rw [len_ls T.t_sl_int64.u (h.ext hx1)]
  refine Loop1.range cs.length (fun i w2 => Chg (fun r => r = m) w1 w2 ∧ ∃ E, MapIs w2 m (E.map kvI) ∧ Cnts (cs.take i) E) (by omega) ⟨Chg.refl _ _, [], hmap, by simp [Cnts]⟩ ?_ ?_
  · rintro i w2 kk hi ⟨hc2, E, hE, hC⟩ hkk
    obtain ⟨x, hxi⟩ : ∃ x, cs[i]? = some x := ⟨_, List.getElem?_eq_getElem hi⟩
    have hx02 : Ext w w2 := hx1.then hc2 (fun r hr he => by have he : r = m := he; omega)
    have hcl : ∀ y, (cs.take i).count y ≤ 1000000 := fun y => by
      have := List.count_le_length (a := y) (l := cs.take i)
      rw [List.length_take] at this; omega
    rw [binS_lss, split_dec]
    refine ⟨fun _ => ?_, fun h => by omega⟩
    rw [get_ls T.t_sl_int64.u T.t_int64.i (by kernel_rfl) (h.ext hx02) hxi]
    have hcs := count_snoc hxi
    have hmem : ∀ y, y ∈ cs.take (i + 1) ↔ y ∈ cs.take i ∨ y = x := fun y => by
      rw [List.take_add_one, hxi]; simp
    by_cases hin : x ∈ cs.take i
    · obtain ⟨j, hj⟩ := cnts_at hC hin
      have hjm : (E.map kvI)[j]? = some (.int .i64 x, .int .i64 (((cs.take i).count x : Nat) : Int)) := by rw [List.getElem?_map, hj]; rfl
      rw [look_map_some T.t_map_int64_int.u keysI hE (goodI E) ⟨_, rfl⟩ hjm]
      simp only [Bool.false_eq_true, if_false]
      have := hcl x
      rw [binS_add, wrap_i64 (by omega) (by omega)]
      refine RunC.ns (upd_map T.t_map_int64_int.u keysI hE (goodI E) ⟨_, rfl⟩ (fun j' v0 w3 hj' hm3 hc3 hn3 => ?_) (fun w3 hno => absurd rfl (hno _ (List.mem_of_getElem? hjm))))
      have hjj : j' = j := hE.uniq hj' hjm rfl
      subst hjj
      rw [binS_add]
      have e1 : (E.map kvI).set j' (.int .i64 x, .int .i64 ((((cs.take i).count x : Nat) : Int) + 1)) = (E.set j' (x, (((cs.take i).count x : Nat) : Int) + 1)).map kvI := by rw [List.map_set]; rfl
      rw [e1] at hm3
      have hjl := (List.getElem?_eq_some_iff.1 hj).1
      refine hkk _ ⟨hc2.trans hc3, _, hm3, fun y => ?_, fun p hp => ?_⟩
      · rw [List.map_set, set_same (by rw [List.getElem?_map, hj]; rfl), hC.1, hmem]
        exact ⟨.inl, fun h => h.elim id (fun h => h ▸ hin)⟩
      · obtain ⟨q, hq⟩ := List.mem_iff_getElem?.1 hp
        by_cases hqj : j' = q
        · subst hqj
          rw [List.getElem?_set_self hjl] at hq
          cases hq
          show _ = (((cs.take (i + 1)).count x : Nat) : Int)
          rw [hcs, if_pos rfl]; omega
        · rw [List.getElem?_set_ne hqj] at hq
          have hpx : p.1 ≠ x := fun he => hqj (hE.uniq hjm (show (E.map kvI)[q]? = some (kvI p) by rw [List.getElem?_map, hq]; rfl) (by rw [kvI, he]))
          rw [hC.2 p (List.mem_of_getElem? hq), hcs, if_neg hpx, Nat.add_zero]
    · have hno : ∀ p ∈ E.map kvI, p.1 ≠ Value.int .i64 x := fun p hp he => by
        obtain ⟨q, hq, rfl⟩ := List.mem_map.1 hp
        have : q.1 = x := by simpa [kvI] using he
        exact hin ((hC.1 x).1 (List.mem_map.2 ⟨q, hq, this⟩))
      rw [look_map_none T.t_map_int64_int.u keysI ⟨_, _, T.t_int.i⟩ hE (goodI E) ⟨_, rfl⟩ hno]
      simp only [Bool.false_eq_true, if_false]
      rw [binS_add, wrap_i64 (by omega) (by omega)]
      refine RunC.ns (upd_map T.t_map_int64_int.u keysI hE (goodI E) ⟨_, rfl⟩ (fun j' v0 w3 hj' => absurd rfl (hno _ (List.mem_of_getElem? hj'))) (fun w3 _ hm3 hc3 hn3 => ?_))
      rw [binS_add]
      have e1 : E.map kvI ++ [(Value.int .i64 x, Value.int .i64 (0 + 1))] = (E ++ [(x, 1)]).map kvI := by rw [List.map_append]; rfl
      rw [e1] at hm3
      have hc0 : (cs.take i).count x = 0 := List.count_eq_zero.2 hin
      refine hkk _ ⟨hc2.trans hc3, _, hm3, fun y => ?_, fun p hp => ?_⟩
      · rw [List.map_append, List.mem_append, hC.1, hmem]; simp
      · rcases List.mem_append.1 hp with hp | hp
        · have hpx : p.1 ≠ x := fun he => hin ((hC.1 x).1 (List.mem_map.2 ⟨p, hp, he⟩))
          rw [hC.2 p hp, hcs, if_neg hpx, Nat.add_zero]
        · rw [List.mem_singleton.1 hp]
          show (1 : Int) = (((cs.take (i + 1)).count x : Nat) : Int)
          rw [hcs, if_pos rfl, hc0]; rfl
  rintro w2 kk ⟨hc2, E, hE, hC⟩
  rw [List.take_length] at hC
  have hx02 : Ext w w2 := hx1.then hc2 (fun r hr he => by have he : r = m := he; omega)
  rw [binS_lss, split_dec]
  refine ⟨fun h => by omega, fun _ => ?_⟩
  refine (sMin (h.ext hx02) h0).mono ?_
  rintro _ w4 hn4 ⟨rfl, hx4⟩
  have s02 := hx02.size
  have s4 := hx4.size
  refine RunC.ns (range_map T.t_map_int64_int.u (hE.ext hx4) fun it w5 hit hx5 hi5 hIt hn5 => ?_)
  refine ⟨fun best w7 => ∃ b hd lk left cur, best = .int .i64 b ∧ b ∈ cs ∧ Ext w4 w7 ∧ ItIs w7 it m (E.map kvI) left cur ∧ left = lk.map kvI ∧ (hd ++ lk).Perm E ∧ ∀ p ∈ hd, cs.count p.1 < cs.count b ∨ (cs.count p.1 = cs.count b ∧ b ≤ p.1), fun _ w7 => leftN w7 it,
    ⟨minL cs, [], E, E.map kvI, none, rfl, (minL_least h0).1, hx5, hIt, rfl, List.Perm.refl _, fun p hp => by cases hp⟩, ?_⟩
  rintro _ w7 ⟨b, hd, lk, left, cur, rfl, hb, hx7, hIt7, rfl, hperm, hbest⟩
  refine next_map hIt7 (fun _ => by show w.heap.size ≤ it; omega) (fun hnil => ?_) (fun j p w8 hp hx8 hn8 hIt8 => ?_)
  · rw [extract_tuple (v := .bool false) rfl, split_false]
    have : lk = [] := List.map_eq_nil_iff.1 hnil
    subst this
    rw [List.append_nil] at hperm
    refine ⟨(hx02.trans hx4).trans hx7, b, rfl, hb, fun d hd' => ?_⟩
    obtain ⟨q, hq, rfl⟩ := List.mem_map.1 ((hC.1 d).2 hd')
    exact hbest q (hperm.mem_iff.2 hq)
  · rw [extract_tuple (v := .bool true) rfl, split_true]
    refine entry_map hIt8 ?_
    obtain ⟨q, hq, rfl⟩ : ∃ q, lk[j]? = some q ∧ kvI q = p := by
      rw [List.getElem?_map] at hp
      exact Option.map_eq_some_iff.1 hp
    have hqE : q ∈ E := hperm.mem_iff.1 (List.mem_append.2 (.inr (List.mem_of_getElem? hq)))
    have hqc := hC.2 q hqE
    have hqm : q.1 ∈ cs := (hC.1 q.1).1 (List.mem_map.2 ⟨q, hqE, rfl⟩)
    obtain ⟨jb, hjb⟩ := cnts_at hC hb
    have hjbm : (E.map kvI)[jb]? = some (.int .i64 b, .int .i64 ((cs.count b : Nat) : Int)) := by rw [List.getElem?_map, hjb]; rfl
    rw [extract_tuple (v := .int .i64 q.1) rfl, extract_tuple (v := .int .i64 q.2) rfl]
    have hp8 : (hd ++ [q] ++ lk.eraseIdx j).Perm E := by
      refine List.Perm.trans ?_ hperm
      rw [List.append_assoc]
      exact List.Perm.append_left hd (perm_erase hq)
    have hdec : leftN w8 it < leftN w7 it := by
      rw [left_n hIt8, left_n hIt7]
      have := erase_len (List.getElem?_eq_some_iff.1 hp).1
      omega
    refine join1 (fun v w9 => w8 = w9 ∧ ∃ r : Bool, v = .bool r ∧ (r = true ↔ (cs.count b < cs.count q.1 ∨ (cs.count q.1 = cs.count b ∧ q.1 < b)))) ?_ ?_
    · rintro _ _ ⟨rfl, r, rfl, hr⟩
      rw [split_bool]
      refine ⟨fun htr => ?_, fun hfa => ?_⟩
      · have hr := hr.1 htr
        refine ⟨⟨q.1, hd ++ [q], lk.eraseIdx j, _, _, rfl, hqm, hx7.trans hx8, hIt8, (erase_map kvI lk j), hp8, fun p hp => ?_⟩, hdec⟩
        rcases List.mem_append.1 hp with hp | hp
        · have := hbest p hp; omega
        · rw [List.mem_singleton.1 hp]; exact .inr ⟨rfl, Int.le_refl _⟩
      · have hr : ¬ (cs.count b < cs.count q.1 ∨ (cs.count q.1 = cs.count b ∧ q.1 < b)) := fun h => by rw [hr.2 h] at hfa; cases hfa
        refine ⟨⟨b, hd ++ [q], lk.eraseIdx j, _, _, rfl, hb, hx7.trans hx8, hIt8, (erase_map kvI lk j), hp8, fun p hp => ?_⟩, hdec⟩
        rcases List.mem_append.1 hp with hp | hp
        · exact hbest p hp
        · rw [List.mem_singleton.1 hp]; omega
    · intro J hJ
      have hlook : ∀ K : Value → Prop, RunQ prog (Instr.lookup T.t_map_int64_int (.map (some m)) (.int .i64 b) false) w8 K = K (.int .i64 ((cs.count b : Nat) : Int)) := fun K => by
        rw [look_map_some T.t_map_int64_int.u keysI hIt8.map (goodI E) ⟨_, rfl⟩ hjbm]; simp
      rw [hlook, binS_gtr, split_dec]
      refine ⟨fun h1 => hJ _ _ ⟨rfl, true, rfl, ⟨fun _ => .inl (by omega), fun _ => rfl⟩⟩, fun h1 => ?_⟩
      rw [hlook, binS_eql, split_dec]
      refine ⟨fun h2 => ?_, fun h2 => hJ _ _ ⟨rfl, false, rfl, ⟨fun h => (by cases h), fun h => by omega⟩⟩⟩
      rw [binS_lss]
      refine hJ _ _ ⟨rfl, _, rfl, ?_⟩
      rw [decide_eq_true_eq]
      omega

set_option maxHeartbeats 1600000 in
theorem rMost {w : World} {xs xc : Value} {cs : List Int} {K : Int} (hc : LS .i64 w xc cs) (h0 : cs ≠ []) : Cal prog F.ref05_Most [.agg #[xs, .int .i64 K, xc]] w fun v w' => Ext w w' ∧ ∃ o, v = .int .i64 o ∧ IsMost cs o := by
  have hle := hc.le
  have hpos : 0 < cs.length := List.length_pos_iff.2 h0
  apply ref05_Most.enter
  unfold ref05_Most.body
  refine box_c fun gx w1 hgx hx1 hb => ?_
  have hc1 := hc.ext hx1
  rw [field_at T.t_ref04_Table.p rfl, load_cell (by kernel_rfl) (hb.cell (o := 0 + 2) rfl), len_ls T.t_sl_int64.u hc1]
  refine Loop3.range cs.length (fun i best times w2 => w1 = w2 ∧ ∃ (b : Int) (n : Nat), best = .int .i64 b ∧ times = .int .i64 n ∧ n ≤ cs.length ∧ ((i = 0 ∧ n = 0) ∨ (b ∈ cs ∧ n = cs.count b ∧ ∀ d ∈ cs.take i, cs.count d < cs.count b ∨ (cs.count d = cs.count b ∧ b ≤ d)))) hle
    ⟨rfl, 0, 0, rfl, rfl, Nat.zero_le _, .inl ⟨rfl, rfl⟩⟩ ?_ ?_
  · rintro i _ _ _ kk hi ⟨rfl, b, n, rfl, rfl, hn, hI⟩ hkk
    obtain ⟨x, hxi⟩ : ∃ x, cs[i]? = some x := ⟨_, List.getElem?_eq_getElem hi⟩
    have hxm := List.mem_of_getElem? hxi
    have htk : ∀ d, d ∈ cs.take (i + 1) ↔ d ∈ cs.take i ∨ d = x := fun d => by rw [List.take_add_one, hxi]; simp
    rw [binS_lss, split_dec]
    refine ⟨fun _ => ?_, fun h => by omega⟩
    refine join2 (fun best times w3 => w1 = w3 ∧ ∃ (b : Int) (n : Nat), best = .int .i64 b ∧ times = .int .i64 n ∧ n ≤ cs.length ∧ ((i + 1 = 0 ∧ n = 0) ∨ (b ∈ cs ∧ n = cs.count b ∧ ∀ d ∈ cs.take (i + 1), cs.count d < cs.count b ∨ (cs.count d = cs.count b ∧ b ≤ d)))) ?_ ?_
    · rintro best times w3 hI
      rw [binS_add]
      exact hkk _ _ _ hI
    intro J hJ
    rw [get_ls T.t_sl_int64.u T.t_int64.i (by kernel_rfl) hc1 hxi, field_at T.t_ref04_Table.p rfl, load_cell (by kernel_rfl) (hb.cell (o := 0 + 2) rfl), len_ls T.t_sl_int64.u hc1]
    refine Loop2.range cs.length (fun j nv w4 => w1 = w4 ∧ nv = .int .i64 (((cs.take j).count x : Nat) : Int)) hle ⟨rfl, rfl⟩ ?_ ?_
    · rintro j _ _ kj hj ⟨rfl, rfl⟩ hkj
      obtain ⟨y, hyj⟩ : ∃ y, cs[j]? = some y := ⟨_, List.getElem?_eq_getElem hj⟩
      have hcnt := count_snoc hyj x
      have hcl : (cs.take j).count x ≤ j := by
        have := List.count_le_length (a := x) (l := cs.take j)
        rw [List.length_take] at this; omega
      rw [binS_lss, split_dec]
      refine ⟨fun _ => ?_, fun h => by omega⟩
      refine join1 (fun nv w5 => w1 = w5 ∧ nv = .int .i64 (((cs.take (j + 1)).count x : Nat) : Int)) ?_ ?_
      · rintro nv w5 hI
        rw [binS_add]
        exact hkj _ _ hI
      intro J1 hJ1
      rw [get_ls T.t_sl_int64.u T.t_int64.i (by kernel_rfl) hc1 hyj, binS_eql, split_dec]
      refine ⟨fun he => ?_, fun he => hJ1 _ _ ⟨rfl, by rw [hcnt, if_neg (fun h => he h.symm)]; rfl⟩⟩
      rw [binS_add, wrap_i64 (by omega) (by omega)]
      exact hJ1 _ _ ⟨rfl, by rw [hcnt, if_pos he.symm]; rfl⟩
    rintro _ _ kj ⟨rfl, rfl⟩
    rw [List.take_length, binS_lss, split_dec]
    refine ⟨fun h => by omega, fun _ => ?_⟩
    have hxp : 0 < cs.count x := List.count_pos_iff.2 hxm
    have hxl := List.count_le_length (a := x) (l := cs)
    refine join1 (fun v w5 => w1 = w5 ∧ ∃ r : Bool, v = .bool r ∧ (r = true ↔ (n < cs.count x ∨ (cs.count x = n ∧ x < b)))) ?_ ?_
    · rintro _ _ ⟨rfl, r, rfl, hr⟩
      rw [split_bool]
      refine ⟨fun htr => hJ _ _ _ ⟨rfl, x, cs.count x, rfl, rfl, hxl, .inr ⟨hxm, rfl, fun d hd => ?_⟩⟩, fun hfa => hJ _ _ _ ⟨rfl, b, n, rfl, rfl, hn, ?_⟩⟩
      · have hr := hr.1 htr
        rcases (htk d).1 hd with hd | rfl
        · rcases hI with ⟨rfl, _⟩ | ⟨_, hnb, hall⟩
          · simp at hd
          · have := hall d hd; omega
        · exact .inr ⟨rfl, Int.le_refl _⟩
      · have hr : ¬ (n < cs.count x ∨ (cs.count x = n ∧ x < b)) := fun h => by rw [hr.2 h] at hfa; cases hfa
        rcases hI with ⟨_, h2⟩ | ⟨hb, hnb, hall⟩
        · omega
        · refine .inr ⟨hb, hnb, fun d hd => ?_⟩
          rcases (htk d).1 hd with hd | rfl
          · exact hall d hd
          · omega
    · intro J2 hJ2
      rw [binS_gtr, split_dec]
      refine ⟨fun h1 => hJ2 _ _ ⟨rfl, true, rfl, ⟨fun _ => .inl (by omega), fun _ => rfl⟩⟩, fun h1 => ?_⟩
      rw [binS_eql, split_dec]
      refine ⟨fun h2 => ?_, fun h2 => hJ2 _ _ ⟨rfl, false, rfl, ⟨fun h => (by cases h), fun h => by omega⟩⟩⟩
      rw [binS_lss]
      refine hJ2 _ _ ⟨rfl, _, rfl, ?_⟩
      rw [decide_eq_true_eq]
      omega
  · rintro _ _ _ kk ⟨rfl, b, n, rfl, rfl, hn, hI⟩
    rw [binS_lss, split_dec]
    refine ⟨fun h => by omega, fun _ => ⟨hx1, b, rfl, ?_⟩⟩
    rcases hI with ⟨h1, _⟩ | ⟨hb, _, hall⟩
    · omega
    · rw [List.take_length] at hall
      exact ⟨hb, hall⟩

theorem lm_other {w : World} {g gu : Nat} {k : IntKind} {e e' : TypeId} {v : Value} {l : List Int} {cs : List Value} (h : LM k e w g v l) (hb : Blk w gu e' cs) (hne : e ≠ e') {r : Nat} (hr : leads v r) : r ≠ gu := by
  obtain ⟨rfl, _⟩ := LM_leads h hr
  obtain ⟨_, ⟨rfl, _⟩ | ⟨_, _, _, hb2, _⟩⟩ := h
  · obtain ⟨a, n, c, h, _⟩ := hr; cases h
  · rintro rfl
    unfold Blk at hb hb2
    rw [hb] at hb2
    injection hb2 with h1
    injection h1 with h2 h3
    exact hne h3.symm
/-- what Of makes -/
def OfAns (w : World) (szs : List Int) (k : Int) (cs : List Int) (v : Value) (w' : World) : Prop := Ext w w' ∧ ∃ g m o D, v = .pointer (some ⟨g, 0, none⟩) ∧ TupIs w' g m szs k o D ∧ D.length ≤ (prodN szs).toNat ∧ IsC szs (costT D o) cs ∧ IsMost cs o

set_option maxHeartbeats 4000000 in
theorem uOfT {w : World} {g gc : Nat} {sv : Value} {szs cs : List Int} {k : Int} (h : Tab w g gc sv szs k cs) (hin : ∀ c ∈ cs, inK c k) : Cal prog F.tuples_Of [.pointer (some ⟨g, 0, none⟩)] w (OfAns w szs k cs) := by
  obtain ⟨⟨cv, gs, hb, hm, hcv⟩, ⟨_, _, h4⟩, hs, hl⟩ := id h
  have hp := prod_bound hs
  have h6 := hs.1
  have h0 : cs ≠ [] := fun he => by rw [he] at hl; simp at hl; omega
  apply tuples_Of.enter
  unfold tuples_Of.body
  rw [eq_ptr_nil T.t_p_table_Table.u]
  simp only [Option.isNone_some, split_false]
  refine (tEntries h).mono ?_
  rintro lv w2 _ ⟨hx2, gl, hgl, hlv⟩
  refine alloc_c T.t_sl_int64.i fun gbl w3 hgbl hx3 hbl => ?_
  have lbl := hbl.lt
  refine store_cell T.t_sl_int64.i hlv.ls.cells.1 hlv.ls.cells.2 hbl (by simp [Value.cells]) fun w4 hc4 hs4 hbl4 => ?_
  have hbl4 : Blk w4 gbl T.t_sl_int64 [lv] := hbl4
  have s2 := hx2.size
  have s3 := hx3.size
  have hx24 : Ext w2 w4 := hx3.then hc4 (fun r hr he => by have he : r = gbl := he; omega)
  have hlv4 := hlv.ext hx24
  have hx04 := hx2.trans hx24
  refine join1 (fun u w5 => ∃ gu g' m o sv' gs', u = .pointer (some ⟨gu, 0, none⟩) ∧ Ext w4 w5 ∧ Blk w5 gu T.t_p_tuples_Tuples [.pointer (some ⟨g', 0, none⟩)] ∧ w4.heap.size ≤ m ∧ TupAt w5 g' m sv' gs' szs k o [] ∧ IsMost cs o) ?_ ?_
  · rintro _ w5 ⟨gu, g', m, o, sv', gs', rfl, hx45, hbu, hm4, hT, hmost⟩
    have h5 := h.ext (hx04.trans hx45)
    have hbl5 := hbl4.ext hx45
    have hlv5 := hlv4.ext hx45
    refine (tShape h5).mono ?_
    rintro _ w6 _ ⟨rfl, hx6⟩
    refine sAll.mono ?_
    rintro _ w7 _ ⟨hx7, gsh, rfl, hgsh, hbsh⟩
    have hx57 := hx6.trans hx7
    have hT7 := hT.ext hx57
    have hbl7 := hbl5.ext hx57
    have hbu7 := hbu.ext hx57
    have hlv7 := hlv5.ext hx57
    have hm7 := hm.ext ((hx04.trans hx45).trans hx57)
    have hmap7 := hT7.2.2.1
    have hx07 := (hx04.trans hx45).trans hx57
    have s04 := hx04.size
    have hit := allIter (g := gsh) (B0 := w7.heap.size) (sv := sv) hs
    refine ⟨Nat, false, F.shape_Shape_All_c1, #[.pointer (some ⟨gsh, 0, none⟩)], _, _, _, _, fun i w' => Chg (fun r => r = m) w7 w' ∧ ∃ D, D.length ≤ i ∧ TupAt w' g' m sv' gs' szs k o D ∧ ∀ (j : Nat) t, (allT szs)[j]? = some t → costT D o t = if j < i then getC szs cs t else o, fun _ _ _ => False, rfl, hit.s,
      ?_, fun _ _ hx h => ⟨h.1.ext hx, h.2.1.ext hx, Nat.le_trans h.2.2 hx.size⟩, fun _ _ _ hx ⟨h1, D, h2, h3, h4⟩ => ⟨h1.trans (hx.chg _), D, h2, h3.ext hx, h4⟩, fun _ _ _ _ _ h => h, ⟨hbsh, hm7.ls, Nat.le_refl _⟩, ⟨Chg.refl _ _, [], Nat.le_refl _, hT7, fun j t _ => by rw [if_neg (by omega)]; rfl⟩, ?_, ?_, fun _ _ h => h.elim, fun _ _ _ h => h.elim⟩
    · rintro _ _ _ _ ⟨_, _, _, _, rfl, _⟩; rfl
    · rintro _ tv i _ w8 ⟨hq1, hq2, hB8⟩ ⟨hi, rfl, tv', gt, hab, hgt, htv⟩ ⟨hc8, D, hD, hT8, hcost⟩
      cases hab
      have hti : (allT szs)[i]? = some (tupN szs (i : Int)) := all_tup hs.2 (by omega)
      have hval : Val szs (tupN szs (i : Int)) := tup_val hs.2 hi
      generalize tupN szs (i : Int) = t at *
      have hci := getC_at hs.2 hl hti
      intro w9 hx9 _ _
      intro w10 hx10 _ _
      have hx810 := hx9.trans hx10
      have hc810 : Chg (fun r => r = m) w7 w10 := hc8.trans (hx810.chg _)
      rw [load_cell (by kernel_rfl) ((blk_putm hbu7 hmap7 hc810).cell (o := 0) rfl), load_cell (by kernel_rfl) ((blk_putm hbl7 hmap7 hc810).cell (o := 0) rfl), get_ls T.t_sl_int64.u T.t_int64.i (by kernel_rfl) (lm_putm hlv7 hmap7 hc810).ls hci]
      have hT10 := hT8.ext hx810
      refine (uPut hT10.is (htv.ext hx810).ls (c := getC szs cs t)).mono ?_
      rintro _ w11 _ ⟨_, hok⟩
      obtain ⟨rfl, hc11, D', hU, hT11⟩ := hok ⟨hval, hin _ (List.mem_of_getElem? hci)⟩
      have hc711 := hc810.trans hc11
      have hU2 := hU.2
      refine ⟨⟨blk_putm hbsh hmap7 hc711, (lm_putm hm7 hmap7 hc711).ls, Nat.le_trans hB8 (Nat.le_trans hx810.size hc11.size)⟩, ⟨hc711, D', by omega, hT10.put hc11 hT11, fun j s hj => ?_⟩, fun h => by cases h⟩
      rw [hU.cost hT10.is.nodup hT11.nodup]
      by_cases hji : j = i
      · subst hji
        rw [hti] at hj
        cases hj
        rw [if_pos rfl, if_pos (by omega)]
      · rw [if_neg (fun (he : s = t) => hji (allT_inj hs.2 (by rw [← he]; exact hj) hti)), hcost j s hj]
        by_cases h1 : j < i
        · rw [if_pos h1, if_pos (by omega)]
        · rw [if_neg h1, if_neg (by omega)]
    · rintro i w8 rfl ⟨hc8, D, hD, hT8, hcost⟩
      rw [load_cell (by kernel_rfl) ((blk_putm hbu7 hmap7 hc8).cell (o := 0) rfl)]
      intro w9 hx9 _
      refine ⟨(hx07.then hc8 (fun r hr he => by have he : r = m := he; omega)).trans hx9, g', m, o, D, rfl, hT8.is.ext hx9, hD, ⟨hl, fun t ht => ?_⟩, hmost⟩
      obtain ⟨j, hj⟩ := val_ex hs.2 ht
      have := (List.getElem?_eq_some_iff.1 hj).1
      rw [allT_length hs.2] at this
      rw [hcost j t hj, if_pos this]
  intro J hJ
  intro w14 hx14 _ _
  have hx014 := hx04.trans hx14
  have hx414 := hx14
  have h14 := h.ext hx014
  have hlv14 := hlv4.ext hx14
  have s14 := hx14.size
  rw [load_cell (by kernel_rfl) ((hbl4.ext hx14).cell (o := 0) rfl)]
  -- the ends
  have fin : ∀ {gu : Nat} {w' : World} {tv : Value} {o : Int}, Ext w14 w' → w14.heap.size ≤ gu → (∃ cu, Blk w' gu T.t_p_tuples_Tuples [cu]) → LS .i64 w' tv szs → IsMost cs o →
      Cal prog F.tuples_New [tv, .int .i64 k, .int .i64 o] w' fun t20 w23 => RunQ prog (Instr.extract t20 0) w23 fun t21 => RunQ prog (Instr.extract t20 1) w23 fun _ => RunC prog (Instr.storeAt T.t_p_tuples_Tuples (.pointer (some ⟨gu, 0, none⟩)) t21) w23 fun (_ : Unit) w24 => J (.pointer (some ⟨gu, 0, none⟩)) w24 := by
    rintro gu w' tv o hx' hgu ⟨cu, hbu⟩ htv hmost
    refine (uNew htv).mono ?_
    rintro _ w23 _ ⟨hx23, _, _, hgood⟩
    obtain ⟨g', m, rfl, hg', hm', hT⟩ := hgood hs (hin _ hmost.1)
    obtain ⟨sv', gs', hT⟩ := hT.at
    rw [extract_tuple (v := .pointer (some ⟨g', 0, none⟩)) rfl, extract_tuple (v := .int .i64 0) rfl]
    have lgu := hbu.lt
    have s' := hx'.size
    refine store_cell T.t_p_tuples_Tuples.i rfl rfl (hbu.ext hx23) (by simp) fun w24 hc24 hs24 hb24 => ?_
    refine hJ _ _ ⟨gu, g', m, o, sv', gs', rfl, ((hx414.trans hx').trans hx23).then hc24 (fun r hr he => by have he : r = gu := he; omega), hb24, by omega, hT.chg hc24 (fun he => by have he : g' = gu := he; omega) (fun he => by have he : m = gu := he; omega) (fun r hr he => ?_), hmost⟩
    exact lm_other hT.2.1 (hbu.ext hx23) (by decide) hr he
  have kMost : ∀ {gu : Nat} {w' : World} {tv : Value}, Ext w14 w' → w14.heap.size ≤ gu → (∃ cu, Blk w' gu T.t_p_tuples_Tuples [cu]) → LS .i64 w' tv szs →
      Cal prog F.tuples_most [lv] w' fun t19 w2 => Cal prog F.tuples_New [tv, .int .i64 k, t19] w2 fun t20 w23 => RunQ prog (Instr.extract t20 0) w23 fun t21 => RunQ prog (Instr.extract t20 1) w23 fun _ => RunC prog (Instr.storeAt T.t_p_tuples_Tuples (.pointer (some ⟨gu, 0, none⟩)) t21) w23 fun (_ : Unit) w24 => J (.pointer (some ⟨gu, 0, none⟩)) w24 := by
    rintro gu w' tv hx' hgu ⟨cu, hbu⟩ htv
    refine (uMost (hlv14.ext hx').ls h0 (by omega)).mono ?_
    rintro _ w2 _ ⟨hx2, o, rfl, hmost⟩
    exact fin (hx'.trans hx2) hgu ⟨cu, hbu.ext hx2⟩ (htv.ext hx2) hmost
  have kK : ∀ {gu : Nat} {w' : World} {tv : Value}, Ext w14 w' → w14.heap.size ≤ gu → (∃ cu, Blk w' gu T.t_p_tuples_Tuples [cu]) → LS .i64 w' tv szs →
      Cal prog F.P_table_Table_K [.pointer (some ⟨g, 0, none⟩)] w' fun t17 w1 => (Ext w14 w1 ∨ Stays prog (Instr.loadAt T.t_sl_int64 (.pointer (some ⟨gbl, 0, none⟩))) lv w1 ∧ True) ∧
        Cal prog F.tuples_most [lv] w1 fun t19 w2 => Cal prog F.tuples_New [tv, t17, t19] w2 fun t20 w23 => RunQ prog (Instr.extract t20 0) w23 fun t21 => RunQ prog (Instr.extract t20 1) w23 fun _ => RunC prog (Instr.storeAt T.t_p_tuples_Tuples (.pointer (some ⟨gu, 0, none⟩)) t21) w23 fun (_ : Unit) w24 => J (.pointer (some ⟨gu, 0, none⟩)) w24 := by
    rintro gu w' tv hx' hgu ⟨cu, hbu⟩ htv
    refine (tK (h14.ext hx')).mono ?_
    rintro _ w1 _ ⟨rfl, hx1⟩
    exact ⟨.inl (hx'.trans hx1), kMost (hx'.trans hx1) hgu ⟨cu, hbu.ext hx1⟩ (htv.ext hx1)⟩
  have hsz1000 : szs.length ≤ 1000 := by omega
  have kSizes : ∀ {gu : Nat} {w' : World}, Ext w14 w' → w14.heap.size ≤ gu → (∃ cu, Blk w' gu T.t_p_tuples_Tuples [cu]) →
      Cal prog F.shape_Shape_Sizes [.agg #[sv]] w' fun t15 w0 => (Ext w14 w0 ∨ Stays prog (Instr.loadAt T.t_sl_int64 (.pointer (some ⟨gbl, 0, none⟩))) lv w0 ∧ True) ∧
        Cal prog F.P_table_Table_K [.pointer (some ⟨g, 0, none⟩)] w0 fun t17 w1 => (Ext w14 w1 ∨ Stays prog (Instr.loadAt T.t_sl_int64 (.pointer (some ⟨gbl, 0, none⟩))) lv w1 ∧ True) ∧
        Cal prog F.tuples_most [lv] w1 fun t19 w2 => Cal prog F.tuples_New [t15, t17, t19] w2 fun t20 w23 => RunQ prog (Instr.extract t20 0) w23 fun t21 => RunQ prog (Instr.extract t20 1) w23 fun _ => RunC prog (Instr.storeAt T.t_p_tuples_Tuples (.pointer (some ⟨gu, 0, none⟩)) t21) w23 fun (_ : Unit) w24 => J (.pointer (some ⟨gu, 0, none⟩)) w24 := by
    rintro gu w' hx' hgu ⟨cu, hbu⟩
    refine (sSizes (hm.ext (hx014.trans hx')).ls hsz1000).mono ?_
    rintro tv w1 _ ⟨hx1, _, _, htv⟩
    exact ⟨.inl (hx'.trans hx1), kK (hx'.trans hx1) hgu ⟨cu, hbu.ext hx1⟩ htv.ls⟩
  have newU : ∀ {w' : World} {R : Value → World → Prop}, Ext w14 w' → (∀ gu w'', w14.heap.size ≤ gu → Ext w' w'' → (∃ cu, Blk w'' gu T.t_p_tuples_Tuples [cu]) → R (.pointer (some ⟨gu, 0, none⟩)) w'') → RunC prog (Instr.alloc T.t_p_tuples_Tuples true (.tuple #[])) w' R := fun {w'} {R} hx' hR => by
    have := hx'.size
    exact alloc_c T.t_p_tuples_Tuples.i fun gu w'' hgu hx'' hb => hR gu w'' (by omega) hx'' ⟨_, hb⟩
  refine ⟨?_, newU (Ext.refl _) fun gu w40 hgu hx40 hbu => ⟨.inl hx40, ?_⟩⟩
  rotate_left
  · refine (tShape (h14.ext hx40)).mono ?_
    rintro _ w41 _ ⟨rfl, hx41⟩
    obtain ⟨cu, hbu⟩ := hbu
    exact ⟨.inl (hx40.trans hx41), kSizes (hx40.trans hx41) hgu ⟨cu, hbu.ext hx41⟩⟩
  refine (tShape h14).mono ?_
  rintro _ w15 _ ⟨rfl, hx15⟩
  refine ⟨.inl hx15, ?_, newU hx15 fun gu w34 hgu hx34 hbu => ⟨.inl (hx15.trans hx34), kSizes (hx15.trans hx34) hgu hbu⟩⟩
  refine (sSizes (hm.ext (hx014.trans hx15)).ls hsz1000).mono ?_
  rintro tv w16 _ ⟨hx16, _, _, htv⟩
  have hx1416 := hx15.trans hx16
  refine ⟨.inl hx1416, ?_, newU hx1416 fun gu w29 hgu hx29 hbu => ⟨.inl (hx1416.trans hx29), kK (hx1416.trans hx29) hgu hbu (htv.ext hx29).ls⟩⟩
  refine (tK (h14.ext hx1416)).mono ?_
  rintro _ w17 _ ⟨rfl, hx17⟩
  have hx1417 := hx1416.trans hx17
  refine ⟨.inl hx1417, ?_, newU hx1417 fun gu w25 hgu hx25 hbu => ⟨.inl (hx1417.trans hx25), kMost (hx1417.trans hx25) hgu hbu ((htv.ext hx17).ext hx25).ls⟩⟩
  refine (uMost (hlv14.ext hx1417).ls h0 (by omega)).mono ?_
  rintro _ w18 _ ⟨hx18, o, rfl, hmost⟩
  have hx1418 := hx1417.trans hx18
  have htv18 := (htv.ext hx17).ext hx18
  refine ⟨?_, newU hx1418 fun gu w22 hgu hx22 hbu => ⟨.inl (hx1418.trans hx22), fin (hx1418.trans hx22) hgu hbu (htv18.ext hx22).ls hmost⟩⟩
  refine (uNew htv18.ls).mono ?_
  rintro _ w19 _ ⟨hx19, _, _, hgood⟩
  obtain ⟨g', m, rfl, hg', hm', hT⟩ := hgood hs (hin _ hmost.1)
  obtain ⟨sv', gs', hT⟩ := hT.at
  rw [extract_tuple (v := .pointer (some ⟨g', 0, none⟩)) rfl, extract_tuple (v := .int .i64 0) rfl]
  have hx1419 := hx1418.trans hx19
  refine alloc_c T.t_p_tuples_Tuples.i fun gu w20 hgu hx20 hbu => ?_
  refine ⟨.inl (hx1419.trans hx20), ?_⟩
  have lgu := hbu.lt
  obtain ⟨t1, t2, t3⟩ := hT.lts
  have s1418 := hx1418.size
  have s1419 := hx1419.size
  refine store_cell T.t_p_tuples_Tuples.i rfl rfl hbu (by simp [Value.cells]) fun w21 hc21 hs21 hb21 => ?_
  exact hJ _ _ ⟨gu, g', m, o, sv', gs', rfl, ((hx414.trans hx1419).trans hx20).then hc21 (fun r hr he => by have he : r = gu := he; omega), hb21, by omega, (hT.ext hx20).chg hc21 (fun he => by have he : g' = gu := he; omega) (fun he => by have he : m = gu := he; omega) (fun r hr he => by have he : r = gu := he; have := t3 r hr; omega), hmost⟩
end Go.Proofs.Ytahhkeljejfgfaa

