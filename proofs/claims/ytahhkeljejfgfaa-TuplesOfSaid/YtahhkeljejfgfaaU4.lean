/- Tuples: a map's keys, collected. -/
import Derived.Test.YtahhkeljejfgfaaU3
import Derived.Test.YtahhkeljejfgfaaKq
namespace Go.Proofs.Ytahhkeljejfgfaa
open Go Go.Vc Go.RowKit Go.Proofs Go.Proofs.Try
set_option maxRecDepth 100000

theorem perm_erase {α : Type} : ∀ {l : List α} {j : Nat} {x : α}, l[j]? = some x → (x :: l.eraseIdx j).Perm l
  | [], j, x, h => by simp at h
  | a :: l, 0, x, h => by simp at h; subst h; exact List.Perm.refl _
  | a :: l, j + 1, x, h => by
    simp at h
    rw [List.eraseIdx_cons_succ]
    exact (List.Perm.swap a x _).trans ((perm_erase h).cons a)
theorem erase_len {α : Type} {l : List α} {j : Nat} (h : j < l.length) : (l.eraseIdx j).length + 1 = l.length := by
  rw [List.length_eraseIdx, if_pos h]; omega

/-- how many entries a range has left -/
def leftN (w : World) (it : Nat) : Nat := match w.heap[it]? with
  | some (.mapIter (some m) _ seen _) => (match w.heap[m]? with
    | some (.map es _) => (leftOf es seen).size
    | _ => 0)
  | _ => 0
theorem left_n {w : World} {it m : Nat} {d left : List (Value × Value)} {cur : Option (Value × Value)} (h : ItIs w it m d left cur) : leftN w it = left.length := by
  obtain ⟨es, cl, seen, c0, h1, _, _, h4, _, rfl, _⟩ := h
  unfold leftN
  rw [h4]
  simp only
  rw [h1]
  simp
theorem itIs_over {w w' w0 : World} {it m : Nat} {d d0 left : List (Value × Value)} {cur : Option (Value × Value)} (h : ItIs w it m d left cur) (hm : MapIs w0 m d0) (h1 : Ext w0 w) (h2 : Ext w0 w') (hi : Its w w') : ItIs w' it m d left cur := by
  obtain ⟨es, c, s, c0, e1, e2, e3, e4, e5⟩ := h
  obtain ⟨es', c', f1, _⟩ := hm
  have g1 := h1.keep m _ f1 rfl
  have g2 := h2.keep m _ f1 rfl
  rw [e1] at g1
  rw [← g1] at g2
  exact ⟨es, c, s, c0, g2, e2, e3, hi it _ e4 rfl, e5⟩

/-- a row of keys -/
abbrev KR (w : World) (g : Nat) (v : Value) (L : List (List Int)) : Prop := RM (ints .i8) 6 T.t_tuples_key w g v L
theorem ints_one {k : IntKind} {l : List Int} : ∀ u ∈ ints k l, u.oneCell' = true := fun u hu => by
  obtain ⟨x, _, rfl⟩ := List.mem_map.1 hu; rfl

set_option maxHeartbeats 800000 in
theorem keysIter {gm m : Nat} {d : List (Value × Value)} {KS : List (List Int)} {w0 : World} (hb : Blk w0 gm T.t_map_tuples_key_int64 [.map (some m)]) (hm : MapIs w0 m d) (hd : d.map (·.1) = KS.map keyV) (h6 : ∀ ks ∈ KS, ks.length = 6) :
    IterS prog true F.maps_Keys_map_tuples_key_int64_tuples_key_int64__c1 [.pointer (some ⟨gm, 0, none⟩)] ([] : List (List Int)) (fun h => h.Perm KS) (fun h vs h' _ => ∃ ks ∈ KS, h.length < KS.length ∧ vs = [keyV ks] ∧ h' = h ++ [ks]) (fun w => Ext w0 w) := by
  refine ⟨maps_Keys_map_tuples_key_int64_tuples_key_int64__c1.enters, fun l J Jx w hJ _ hround hx h0 => ?_⟩
  apply maps_Keys_map_tuples_key_int64_tuples_key_int64__c1.enter
  unfold maps_Keys_map_tuples_key_int64_tuples_key_int64__c1.body
  rw [load_cell (by kernel_rfl) ((hb.ext hx).cell (o := 0) rfl)]
  refine RunC.ns (range_map T.t_map_tuples_key_int64.u (hm.ext hx) fun it w1 hit hx1 hi1 hIt hns1 => ?_)
  refine ⟨fun w2 => ∃ h lk left cur, J h w2 ∧ Ext w0 w2 ∧ w.heap.size ≤ w2.heap.size ∧ ItIs w2 it m d left cur ∧ left.map (·.1) = lk.map keyV ∧ (h ++ lk).Perm KS, fun w2 => leftN w2 it,
    ⟨[], KS, d, none, hJ _ _ _ hx1 hns1.b h0, hx.trans hx1, hx1.size, hIt, hd, List.Perm.refl _⟩, ?_⟩
  rintro w2 ⟨h, lk, left, cur, hj, hx2, hs2, hIt2, hlk, hperm⟩
  have hllen : left.length = lk.length := by have := congrArg List.length hlk; simpa using this
  refine next_map hIt2 (fun h => by cases h) (fun hnil => ?_) (fun j p w3 hp hx3 hn3 hIt3 => ?_)
  · rw [extract_tuple (v := .bool false) rfl, split_false]
    subst hnil
    have : lk = [] := List.eq_nil_of_length_eq_zero (by rw [← hllen]; rfl)
    subst this
    rw [List.append_nil] at hperm
    exact .inl ⟨h, hperm, hj⟩
  · rw [extract_tuple (v := .bool true) rfl, split_true]
    refine entry_map hIt3 ?_
    obtain ⟨ks, hks, hpk⟩ : ∃ ks, lk[j]? = some ks ∧ p.1 = keyV ks := by
      have h1 : (left.map (·.1))[j]? = some p.1 := by rw [List.getElem?_map, hp]; rfl
      rw [hlk, List.getElem?_map] at h1
      obtain ⟨ks, h2, h3⟩ := Option.map_eq_some_iff.1 h1
      exact ⟨ks, h2, h3.symm⟩
    have hmem : ks ∈ KS := hperm.mem_iff.1 (List.mem_append.2 (.inr (List.mem_of_getElem? hks)))
    have hkl := h6 ks hmem
    rw [extract_tuple (v := p.1) rfl, hpk]
    refine RunC.ns (alloc_c T.t_tuples_key.i fun gk w4 hgk hx4 hbk hn4 => ?_)
    refine RunC.ns (store_key hkl rfl hbk fun w5 hc5 hs5 hb5 hn5 => ?_)
    rw [load_key hkl hb5.range]
    have hx35 : Ext w3 w5 := hx4.then hc5 (fun r hr he => by have he : r = gk := he; omega)
    have hn35 := hn4.trans hn5
    have hx05 : Ext w0 w5 := (hx2.trans hx3).trans hx35
    have hj3 := hJ _ _ _ hx3 (by rw [← hit]; exact hn3) hj
    have hj5 := hJ _ _ _ hx35 hn35.b hj3
    have hIt5 := hIt3.ext hx35 hn35.its
    have hlt : h.length < KS.length := by
      have h1 := hperm.length_eq
      have h2 := (List.getElem?_eq_some_iff.1 hks).1
      rw [List.length_append] at h1
      omega
    refine ⟨rfl, (hround h (h ++ [ks]) _ w5 hx05 ⟨ks, hmem, hlt, rfl, rfl⟩ hj5).mono ?_⟩
    rintro _ w7 (⟨rfl, hx7, hj7, hi7⟩ | ⟨rfl, hjx⟩)
    · simp only [un_not, Bool.not_true, split_false]
      have hIt7 := itIs_over hIt5 hm hx05 hx7 (hi7 rfl)
      have hsz : w.heap.size ≤ w7.heap.size := by
        obtain ⟨_, _, _, _, _, _, _, h4, _⟩ := hIt7
        have := (Array.getElem?_eq_some_iff.1 h4).1
        omega
      refine ⟨⟨h ++ [ks], lk.eraseIdx j, left.eraseIdx j, some p, hj7, hx7, hsz, hIt7, ?_, ?_⟩, ?_⟩
      · rw [← erase_map, hlk, erase_map]
      · refine List.Perm.trans ?_ hperm
        rw [List.append_assoc]
        exact List.Perm.append_left h (perm_erase hks)
      · rw [left_n hIt7, left_n hIt2]
        have := erase_len (List.getElem?_eq_some_iff.1 hp).1
        omega
    · simp only [un_not, Bool.not_false, split_true]
      exact .inr ⟨h, hjx⟩

theorem kKeys {w : World} {m : Nat} : Cal prog F.maps_Keys_map_pennyweight_tuples_key_int64_pennyweight_tuples_key_int64 [.map (some m)] w fun r w' => Ext w w' ∧ ∃ g, r = .func (.func F.maps_Keys_map_tuples_key_int64_tuples_key_int64__c1) #[] #[.pointer (some ⟨g, 0, none⟩)] ∧ w.heap.size ≤ g ∧ Blk w' g T.t_map_tuples_key_int64 [.map (some m)] := by
  apply maps_Keys_map_pennyweight_tuples_key_int64_pennyweight_tuples_key_int64.enter
  unfold maps_Keys_map_pennyweight_tuples_key_int64_pennyweight_tuples_key_int64.body
  refine box_c fun g w1 hg hx1 hb => ?_
  rw [makeFunc_eq]
  exact ⟨hx1, g, rfl, by omega, hb⟩

set_option maxHeartbeats 800000 in
theorem kAppendSeq {gm m : Nat} {d : List (Value × Value)} {KS : List (List Int)} {w : World} (hb : Blk w gm T.t_map_tuples_key_int64 [.map (some m)]) (hm : MapIs w m d) (hd : d.map (·.1) = KS.map keyV) (h6 : ∀ ks ∈ KS, ks.length = 6) (hlen : KS.length ≤ 1000000) :
    Cal prog F.slices_AppendSeq_pennyweight_tuples_key_pennyweight_tuples_key [.slice none 0 0, .func (.func F.maps_Keys_map_tuples_key_int64_tuples_key_int64__c1) #[] #[.pointer (some ⟨gm, 0, none⟩)]] w fun v w' => Ext w w' ∧ ∃ g L, (∀ r, leadsTo v r → w.heap.size ≤ r) ∧ L.Perm KS ∧ KR w' g v L := by
  apply slices_AppendSeq_pennyweight_tuples_key_pennyweight_tuples_key.enter
  unfold slices_AppendSeq_pennyweight_tuples_key_pennyweight_tuples_key.body
  refine box_c fun gs w1 hgs hx1 hb1 => ?_
  have hb1 : Blk w1 gs T.t_sl_tuples_key [.slice none 0 0] := hb1
  have l1 := hb1.lt
  refine ⟨List (List Int), true, _, _, _, _, _, _, fun h w' => Chg (fun r => w.heap.size ≤ r) w w' ∧ ∃ v g, Blk w' gs T.t_sl_tuples_key [v] ∧ (∀ r, leadsTo v r → w.heap.size ≤ r ∧ r ≠ gs) ∧ KR w' g v h, fun _ _ _ => False, rfl, keysIter hb hm hd h6, ?_, fun _ _ hx h => h.trans hx,
    fun _ _ _ hx h => ⟨h.1.trans (hx.chg _), by obtain ⟨v, g, h1, h2, h3⟩ := h.2; exact ⟨v, g, h1.ext hx, h2, h3.ext hx⟩⟩, fun _ _ _ _ _ h => h, hx1, ⟨hx1.chg _, _, 0, hb1, fun r h => (nil_leadsTo h).elim, RM.nil _ _ _ _ _⟩, ?_, ?_, fun _ _ h => h.elim, fun _ _ _ h => h.elim⟩
  · rintro h _ h' w' ⟨ks, _, _, rfl, _⟩; rfl
  · rintro a h h' w2 hx2 ⟨ks, hks, hlt, hab, rfl⟩ ⟨hc2, v, g, hb2, lv, hv⟩
    cases hab
    have hkl := h6 ks hks
    have hhl : h.length ≤ 1000000 := by omega
    refine RunC.ns (alloc_c T.t_tuples_key.i fun gk w3 hgk hx3 hbk hn3 => ?_)
    refine RunC.ns (store_key hkl rfl hbk fun w4 hc4 hs4 hb4 hn4 => ?_)
    intro w5 hx5 _ hi5
    have lk := hbk.lt
    have hx24 : Ext w2 w4 := hx3.then hc4 (fun r hr he => by have he : r = gk := he; omega)
    have hx25 := hx24.trans hx5
    rw [load_cell (by kernel_rfl) ((hb2.ext hx25).cell (o := 0) rfl), load_key hkl (hb4.ext hx5).range]
    refine RunC.ns (one_rm (f := ints .i8) (a := ks) T.t_sl_tuples_key.u T.t_tuples_key.i (by omega) (by simp [keyV, Value.cells]) (by simp [hkl]) fun a ga w6 hga hx6 ha hn6 => ?_)
    have hsl := ha.sl
    rw [List.flatMap_cons, List.flatMap_nil, List.append_nil] at hsl
    refine RunC.ns (push_rm T.t_sl_tuples_key.u T.t_tuples_key.i rfl ((hv.ext hx25).ext hx6) hsl (fun a => ints_one) (by omega) (by omega) fun v' g' w7 hv' lv' hc7 hn7 => ?_)
    have s2 := hc2.size
    have s25 := hx25.size
    have s6 := hx6.size
    have l2 := hb2.lt
    have lv7 : ∀ r, leadsTo v' r → w.heap.size ≤ r ∧ r ≠ gs := fun r hr => by
      rcases lv' r hr with h | h
      · exact lv r h
      · omega
    have hb7 : Blk w7 gs T.t_sl_tuples_key [v] := ((hb2.ext hx25).ext hx6).chg hc7 (fun h => (lv gs h).2 rfl)
    refine RunC.ns (store_cell T.t_sl_tuples_key.i (by obtain ⟨_, _, _, _, _, rfl, _⟩ := hv'.sl; rfl) (by obtain ⟨_, _, _, _, _, rfl, _⟩ := hv'.sl; rfl) hb7 (by simp) fun w8 hc8 hs8 hb8 hn8 => ?_)
    have hcc : Chg (fun r => w.heap.size ≤ r) w2 w8 := (((hx25.trans hx6).chg _).trans (hc7.mono fun r _ h => (lv r h).1)).trans (hc8.mono fun r _ h => by show w.heap.size ≤ r; omega)
    refine ⟨hx2.then hcc (fun r hr h => by have h : w.heap.size ≤ r := h; omega), ⟨hc2.trans hcc, v', g', hb8, lv7, hv'.chg hc8 fun r hr h => (lv7 r hr).2 h⟩, fun _ => ?_⟩
    exact ((((hn3.its.trans hn4.its).trans hi5).trans hn6.its).trans hn7.its).trans hn8.its
  · rintro h w7 hperm ⟨hc7, v, g, hb7, lv, hv⟩
    rw [load_cell (by kernel_rfl) (hb7.cell (o := 0) rfl)]
    intro w8 hx8 _
    exact ⟨(hc7.ext fun r hr h => by have : w.heap.size ≤ r := h; omega).trans hx8, g, h, fun r hr => (lv r hr).1, hperm, hv.ext hx8⟩
theorem kCollect {gm m : Nat} {d : List (Value × Value)} {KS : List (List Int)} {w : World} (hb : Blk w gm T.t_map_tuples_key_int64 [.map (some m)]) (hm : MapIs w m d) (hd : d.map (·.1) = KS.map keyV) (h6 : ∀ ks ∈ KS, ks.length = 6) (hlen : KS.length ≤ 1000000) :
    Cal prog F.slices_Collect_pennyweight_tuples_key [.func (.func F.maps_Keys_map_tuples_key_int64_tuples_key_int64__c1) #[] #[.pointer (some ⟨gm, 0, none⟩)]] w fun v w' => Ext w w' ∧ ∃ g L, (∀ r, leadsTo v r → w.heap.size ≤ r) ∧ L.Perm KS ∧ KR w' g v L := by
  apply slices_Collect_pennyweight_tuples_key.enter
  unfold slices_Collect_pennyweight_tuples_key.body
  exact (kAppendSeq hb hm hd h6 hlen).mono fun _ _ _ h => h
end Go.Proofs.Ytahhkeljejfgfaa

