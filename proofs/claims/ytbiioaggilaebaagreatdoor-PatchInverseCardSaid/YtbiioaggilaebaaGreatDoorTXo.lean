/- What LawPatchInverse lean on, part o of 29: the texts Bag, RefS, DigH. -/
import Derived.Test.YtbiioaggilaebaaGreatDoorTX0
import Derived.Test.YtbiioaggilaebaaGreatDoorTXh
import Derived.Test.YtbiioaggilaebaaGreatDoorTXl
import Derived.Test.YtbiioaggilaebaaGreatDoorTXn
import Derived.Deep.RegionLaw
set_option linter.all false
set_option maxRecDepth 100000
set_option maxHeartbeats 16000000
namespace Go.Proofs.YtbiioaggilaebaaGreatDoor.Tm
open Go Go.RowKit B Bld
theorem FC.append {ok : Nat -> Prop} {w : World} {l' : List F} {cs' : List Value} (h' : FC ok w l' cs') : ∀ {l : List F} {cs : List Value}, FC ok w l cs -> FC ok w (l ++ l') (cs ++ cs')
 | [], cs, h => by
  cases h
  exact h'
 | f :: l, cs, ⟨c0, c1, c2, r, h1, h2, h3⟩ => ⟨c0, c1, c2, r ++ cs', by rw [h1]; rfl, h2, FC.append h' h3⟩
theorem FC.len {ok : Nat -> Prop} {w : World} : ∀ {l : List F} {cs : List Value}, FC ok w l cs -> cs.length = l.length * 3
 | [], cs, h => by cases h; rfl
 | f :: l, cs, ⟨c0, c1, c2, r, h1, h2, h3⟩ => by
  rw [h1]
  simp only [List.length_cons, FC.len h3]
  omega
theorem FC.one {ok : Nat -> Prop} {w : World} : ∀ {l : List F} {cs : List Value}, FC ok w l cs -> ∀ u ∈ cs, u.oneCell' = true
 | [], cs, h, u, hu => by cases h; cases hu
 | f :: l, cs, ⟨c0, c1, c2, r, h1, h2, h3⟩, u, hu => by
  subst h1
  obtain ⟨e0, e1, e2⟩ := h2.cells
  simp only [List.mem_cons] at hu
  rcases hu with rfl | rfl | rfl | hu
  . exact e0
  . exact e1
  . exact e2
  . exact FC.one h3 u hu
theorem Bag.pushG {base : Nat} {w w' : World} {v : Value} {L G : List F} {cs cs' : List Value} {g cap : Nat} (h2 : FC (fun b => base <= b /\ b < w.heap.size /\ some b ≠ v.ownBlock) w L cs)
 (hf : FC (fun b => base <= b /\ b < w.heap.size /\ some b ≠ v.ownBlock) w G cs')
 (ho : w'.ownsRow base 74 3 (.slice (some ⟨g, 0, none⟩) (L.length + G.length) cap) (L.length + G.length) (cs ++ cs')) (hg : w.grownBy w' v.ownBlock) (hv : v.ownBlock = some g \/ w.heap.size <= g) :
 Bag base w' (.slice (some ⟨g, 0, none⟩) (L.length + G.length) cap) (L ++ G) := by
 have hm : ∀ b, (base <= b /\ b < w.heap.size /\ some b ≠ v.ownBlock) -> (base <= b /\ b < w'.heap.size /\ some b ≠ (Value.slice (some ⟨g, 0, none⟩) (L.length + G.length) cap).ownBlock) /\ w'.heap[b]? = w.heap[b]? := by
  intro b ⟨h1, h2, h3⟩
  refine ⟨⟨h1, Nat.lt_of_lt_of_le h2 hg.size, ?_⟩, hg.block b h2 h3⟩
  show some b ≠ some g
  intro e
  injection e with e
  subst e
  rcases hv with hv | hv
  . exact h3 hv.symm
  . omega
 have e : (L ++ G).length = L.length + G.length := by simp
 exact ⟨cs ++ cs', by rw [e]; exact ho, FC.append (FC.move hm hf) (FC.move hm h2)⟩
def Grew (v : Value) (w w' : World) : Prop := w.heap.size <= w'.heap.size /\ w'.os = w.os /\ w'.tape = w.tape /\ w'.output = w.output /\ ∀ b, b < w.heap.size -> some b ≠ v.ownBlock -> w'.heap[b]? = w.heap[b]?
theorem Grew.cell {v : Value} {w w' : World} (h : Grew v w w') {p : Addr} {u : Value} (hc : w.cell? p = some u) (hne : some p.block ≠ v.ownBlock) : w'.cell? p = some u :=
 (World.cell?_of_block (h.2.2.2.2 _ (World.block_lt_of_cell? w p hc) hne)).trans hc
theorem Grew.heap {v : Value} {w w' : World} (h : Grew v w w') {b : Nat} {o : Obj} (hc : w.heap[b]? = some o) (hne : some b ≠ v.ownBlock) : w'.heap[b]? = some o := (h.2.2.2.2 _ (heap_lt hc) hne).trans hc
theorem Grew.tch {S : Nat -> Prop} {v : Value} {w0 w w' : World} (h : Grew v w w') (ht : Tch S w0 w) (hv : ∀ k, v.ownBlock = some k -> w0.heap.size <= k) : Tch S w0 w' :=
 ⟨h.2.1.trans ht.os, h.2.2.1.trans ht.tape, h.2.2.2.1.trans ht.output, Nat.le_trans ht.size h.1, fun k hk hs => (h.2.2.2.2 k (Nat.lt_of_lt_of_le hk ht.size) (fun e => by have := hv k e.symm; omega)).trans (ht.block k hk hs)⟩
theorem Grew.below {B : Nat} {v : Value} {w0 w w' : World} (h : Grew v w w') (hb : Below B w0 w) (hB : B <= w.heap.size) (hv : ∀ k, v.ownBlock = some k -> B <= k) : Below B w0 w' :=
 ⟨h.2.1.trans hb.os, h.2.2.1.trans hb.tape, h.2.2.2.1.trans hb.output, Nat.le_trans hb.size h.1, fun k hk => (h.2.2.2.2 k (by omega) (fun e => by have := hv k e.symm; omega)).trans (hb.block k hk)⟩
theorem bag_app {ops : Array Oper} {rest : List Oper} {o : Oper} {a : Act} {Q : Exit -> Act -> World -> Prop} {base : Nat} {w : World} {v : Value} {L G : List F} {cs' : List Value} {arr : Array Value} (hgd : o.guard = none) (s x : Operand) (t : TypeId)
 (ho : o.op = .call { callee := .builtin .append, args := #[s, x], argTypes := #[t, t] }) (ht : Tryz.prog.underlying t = some (.slice 74))
 (hs : a.eval s = v) (n m c : Nat) (hx : a.eval x = .slice (some ⟨w.heap.size, 0, none⟩) m c) (harr : arr.toList = cs') (hbag : Bag base w v L)
 (hG : FC (fun b => base <= b /\ b < w.heap.size /\ some b ≠ v.ownBlock) w G cs') (hn : L.length = n) (hm : G.length = m) (hm0 : 0 < m) (hb : n + m <= 1000000000) (hbase : base <= w.heap.size)
 (h : ∀ g cap w', Bag base w' (.slice (some ⟨g, 0, none⟩) (n + m) cap) (L ++ G) -> Grew v w w' -> wpList Tryz.prog ops Q rest (a.put o.dst (.slice (some ⟨g, 0, none⟩) (n + m) cap)) w') :
 wpList Tryz.prog ops Q (o :: rest) a (w.alloc (.cells arr 74)) := by
 subst hn hm harr
 obtain ⟨iF, hiF, hzF, hsF, hbF⟩ := infoF
 have hbag' := hbag
 obtain ⟨cs, hown, hFC⟩ := hbag
 refine wpList_append_lies _ hgd s x t ho base 74 iF _ 3 48 ht hiF hzF hsF hbF rfl (by omega) v L.length cs hs (hown.alloc _) ⟨w.heap.size, 0, none⟩ G.length c arr.toList hx hG.len (World.news_of_block (heap_alloc_at w _)) hG.one hm0 (by unfold maxLen; omega) (by omega) (by simp; omega) (w.heap.size + 1) (by simp) ?_
 intro g cap w' hown' hgrow hat hlt
 have hsz := hgrow.size
 rw [size_alloc] at hsz
 have hgr : w.grownBy w' v.ownBlock := ⟨hgrow.os, hgrow.tape, hgrow.output, by omega, fun k h1 h2 => (hgrow.block k (by rw [size_alloc]; omega) h2).trans (heap_alloc_lt w _ _ h1)⟩
 refine h g cap w' (Bag.pushG hFC hG hown' hgr ?_) ⟨hgr.size, hgr.os, hgr.tape, hgr.output, hgr.block⟩
 rcases hat with h | h
 . exact .inl h
 . right; omega
theorem FC.texts {ok : Nat -> Prop} {w : World} (s : ByteArray) : FC ok w [txt s.data.toList] [.bool false, .string s, .slice none 0 0] := ⟨_, _, _, [], rfl, FK.text _ _ _, rfl⟩
end Go.Proofs.YtbiioaggilaebaaGreatDoor.Tm
namespace Go.Proofs.YtbiioaggilaebaaGreatDoor.Ref
open Go.RowKit B Sha YtbiioaggilaebaaGreatDoorW.PrintLast
theorem RSum_any (s : ByteArray) (hsz : s.size <= 100000) (w : World) :
 Calls Tryz.prog 51 #[.string s] w fun e w' => e = .returned (.string (sha K H0 s)) /\ Tch (fun _ => False) w w' := by
 have hszi : (s.size : Int) <= 100000 := by omega
 have hCH := lh (TableH w)
 have hCK := lh (fun w' => TableK w')
 have hbo := lh (fun W => rowB_of W (s ++ { data := #[128] }) (by rw [ByteArray.size_append]; show s.size + 1 <= _; omega))
 have hs1 : (s ++ { data := #[128] } : ByteArray).size = s.size + 1 := by rw [ByteArray.size_append]; rfl
 have hs2 := lh (show (s ++ { data := #[128] } : ByteArray).data.toList = bz s.data.toList 0 from by rw [ByteArray.data_append, Array.toList_append]; rfl)
 have hsl := lh (len_list s)
 go_enter Tryz.func51, Tryz.ntmps51
 go_wp2_with (first
  | (go_at_call 91; go_fit (hCH.out); rintro e w1 ⟨v1, rfl, ho1, ht1⟩; obtain ⟨gh, ch, rfl, hgh1, hgh2⟩ := ho1.form (by omega); replace ho1 := lh ho1; replace ht1 := lh ht1)
  | (go_at_call 91; go_fit (hCK.out _); rintro e w2 ⟨v2, rfl, ho2, ht2⟩; obtain ⟨gk, ck, rfl, hgk1, hgk2⟩ := ho2.form (by omega); replace ho2 := lh ho2; replace ht2 := lh ht2; obtain ⟨cb, w3, hcv, hrb, hbw⟩ := hbo.out w2; replace hrb := lh hrb; replace hbw := lh hbw))
 have hw2 := lh hgk2
 clear hCH hCK hbo hcv
 generalize hB2 : w2.heap.size = B at *
 replace hB2 := lh hB2
 have hrb0 := lh (show RowB w3 B (.slice (some ⟨B, 0, none⟩) (s.size + 1) cb) (s.size + 1) (bz s.data.toList 0) from by have := hrb.out; rwa [hs1, hs2.out] at this)
 clear hrb
 go_loopg [5] (zs s.size) (fun g v W => ∃ j, g = zs s.size - j /\ j <= zs s.size /\ RowB W B v (s.size + 1 + j) (bz s.data.toList j) /\ Below B w3 W)
 case atStart => exact ⟨0, rfl, by omega, hrb0.out, Below.refl _ _⟩
 case round =>
  clear hrb0
  obtain ⟨j, hg, hj, hr, hbl⟩ := hrel
  subst hg
  have hz64 : zs s.size < 64 := Nat.mod_lt _ (by omega)
  obtain ⟨gb, cb, rfl⟩ := hr.form
  by_cases hjl : j < zs s.size
  . have hm := zs_more s.size j hjl
    have hmi : ¬ ((s.size : Int) + 1 + (j : Int)) % 64 = 56 := by omega
    have hltB := lh hr.lt
    have hrH := lh hr
    have hblH := lh hbl
    clear hr hbl hm
    go_wp2_with (at_builtin; refine wpList_rowB (by rfl) _ _ (by rfl) B _ (s.size + 1 + j) _ 0 (by rfl) (hrH.out.keep ((Tch.refl _ _).alloc _)) ⟨wr.heap.size, 0, none⟩ 1 (by rfl) (cell1 wr _ _ rfl) (by omega) (by have := hltB.out; simp; omega) ?_; intro g cap w4 hr4 hb4)
    go_roundg (zs s.size - (j + 1))
    case measure => omega
    case rel => exact ⟨j + 1, rfl, by omega, by rw [bz_next]; exact hr4, hblH.out.trans (((Below.refl _ _).alloc (Nat.le_of_lt hltB.out) _).trans hb4)⟩
  . have hje : j = zs s.size := by omega
    subst hje
    have hm := zs_end s.size
    have hmi : ((s.size : Int) + 1 + (zs s.size : Int)) % 64 = 56 := by omega
    have hrH := lh (show RowB wr B (.slice (some ⟨gb, 0, none⟩) (s.size + 1 + zs s.size) cb) (s.size + 1 + zs s.size + 0) (bl s.data.toList 0) from by
     unfold bl; rw [hsl.out, List.take_zero, List.append_nil]; exact hr)
    have hblH := lh hbl
    clear hr hbl
    replace hm := lh hm
    generalize hn0 : s.size + 1 + zs s.size = n0 at *
    have hn0i : (s.size : Int) + 1 + (zs s.size : Int) = (n0 : Int) := by omega
    have hn0l : n0 < 100100 := by omega
    have hmn : (n0 : Int) % 64 = 56 := by omega
    go_wp2_with fail
    clear hmi hmn
    go_loopg [5, 7] 8 (fun g v i W => ∃ j : Nat, g = 8 - j /\ j <= 8 /\ i = .int .i64 (7 - (j : Int)) /\ RowB W B v (n0 + j) (bl s.data.toList j) /\ Below B w3 W)
    case atStart => exact ⟨0, rfl, by omega, rfl, hrH.out, hblH.out⟩
    case round =>
     clear hrH hblH
     obtain ⟨j, hg, hj, rfl, hr, hbl⟩ := hrel
     subst hg
     obtain ⟨gb, cb, rfl⟩ := hr.form
     by_cases hjl : j < 8
     . have hnx := lh (bl_next s.data.toList j hjl)
       have hltB := lh hr.lt
       have hrH := lh hr
       have hblH := lh hbl
       clear hr hbl
       obtain rfl | rfl | rfl | rfl | rfl | rfl | rfl | rfl : j = 0 \/ j = 1 \/ j = 2 \/ j = 3 \/ j = 4 \/ j = 5 \/ j = 6 \/ j = 7 := by omega
       . obtain ⟨x, hx⟩ : ∃ x, x = UInt8.ofNat (s.size * 8 / 2 ^ (8 * (7 - 0))) := ⟨_, rfl⟩
         have hxi := lh (show ((s.size : Int) * 8 / 72057594037927936) = (x.toNat : Int) from by rw [hx, UInt8.toNat_ofNat']; omega)
         rw [hsl.out, <- hx] at hnx
         clear hx
         go_wp2_with (at_builtin; refine wpList_rowB (by rfl) _ _ (by rfl) B _ (n0 + 0) _ x (by rfl) (hrH.out.keep ((Tch.refl _ _).alloc _)) ⟨wr.heap.size, 0, none⟩ 1 (by rfl) (cell1 wr _ _ hxi.out) (by omega) (by have := hltB.out; simp; omega) ?_; intro g cap w4 hr4 hb4)
         go_roundg (8 - (0 + 1))
         case measure => omega
         case rel => exact ⟨0 + 1, rfl, by omega, by go_num, by rw [hnx.out]; exact hr4, hblH.out.trans (((Below.refl _ _).alloc (Nat.le_of_lt hltB.out) _).trans hb4)⟩
       . obtain ⟨x, hx⟩ : ∃ x, x = UInt8.ofNat (s.size * 8 / 2 ^ (8 * (7 - 1))) := ⟨_, rfl⟩
         have hxi := lh (show ((s.size : Int) * 8 / 281474976710656) = (x.toNat : Int) from by rw [hx, UInt8.toNat_ofNat']; omega)
         rw [hsl.out, <- hx] at hnx
         clear hx
         go_wp2_with (at_builtin; refine wpList_rowB (by rfl) _ _ (by rfl) B _ (n0 + 1) _ x (by rfl) (hrH.out.keep ((Tch.refl _ _).alloc _)) ⟨wr.heap.size, 0, none⟩ 1 (by rfl) (cell1 wr _ _ hxi.out) (by omega) (by have := hltB.out; simp; omega) ?_; intro g cap w4 hr4 hb4)
         go_roundg (8 - (1 + 1))
         case measure => omega
         case rel => exact ⟨1 + 1, rfl, by omega, by go_num, by rw [hnx.out]; exact hr4, hblH.out.trans (((Below.refl _ _).alloc (Nat.le_of_lt hltB.out) _).trans hb4)⟩
       . obtain ⟨x, hx⟩ : ∃ x, x = UInt8.ofNat (s.size * 8 / 2 ^ (8 * (7 - 2))) := ⟨_, rfl⟩
         have hxi := lh (show ((s.size : Int) * 8 / 1099511627776) = (x.toNat : Int) from by rw [hx, UInt8.toNat_ofNat']; omega)
         rw [hsl.out, <- hx] at hnx
         clear hx
         go_wp2_with (at_builtin; refine wpList_rowB (by rfl) _ _ (by rfl) B _ (n0 + 2) _ x (by rfl) (hrH.out.keep ((Tch.refl _ _).alloc _)) ⟨wr.heap.size, 0, none⟩ 1 (by rfl) (cell1 wr _ _ hxi.out) (by omega) (by have := hltB.out; simp; omega) ?_; intro g cap w4 hr4 hb4)
         go_roundg (8 - (2 + 1))
         case measure => omega
         case rel => exact ⟨2 + 1, rfl, by omega, by go_num, by rw [hnx.out]; exact hr4, hblH.out.trans (((Below.refl _ _).alloc (Nat.le_of_lt hltB.out) _).trans hb4)⟩
       . obtain ⟨x, hx⟩ : ∃ x, x = UInt8.ofNat (s.size * 8 / 2 ^ (8 * (7 - 3))) := ⟨_, rfl⟩
         have hxi := lh (show ((s.size : Int) * 8 / 4294967296) = (x.toNat : Int) from by rw [hx, UInt8.toNat_ofNat']; omega)
         rw [hsl.out, <- hx] at hnx
         clear hx
         go_wp2_with (at_builtin; refine wpList_rowB (by rfl) _ _ (by rfl) B _ (n0 + 3) _ x (by rfl) (hrH.out.keep ((Tch.refl _ _).alloc _)) ⟨wr.heap.size, 0, none⟩ 1 (by rfl) (cell1 wr _ _ hxi.out) (by omega) (by have := hltB.out; simp; omega) ?_; intro g cap w4 hr4 hb4)
         go_roundg (8 - (3 + 1))
         case measure => omega
         case rel => exact ⟨3 + 1, rfl, by omega, by go_num, by rw [hnx.out]; exact hr4, hblH.out.trans (((Below.refl _ _).alloc (Nat.le_of_lt hltB.out) _).trans hb4)⟩
       . obtain ⟨x, hx⟩ : ∃ x, x = UInt8.ofNat (s.size * 8 / 2 ^ (8 * (7 - 4))) := ⟨_, rfl⟩
         have hxi := lh (show ((s.size : Int) * 8 / 16777216) = (x.toNat : Int) from by rw [hx, UInt8.toNat_ofNat']; omega)
         rw [hsl.out, <- hx] at hnx
         clear hx
         go_wp2_with (at_builtin; refine wpList_rowB (by rfl) _ _ (by rfl) B _ (n0 + 4) _ x (by rfl) (hrH.out.keep ((Tch.refl _ _).alloc _)) ⟨wr.heap.size, 0, none⟩ 1 (by rfl) (cell1 wr _ _ hxi.out) (by omega) (by have := hltB.out; simp; omega) ?_; intro g cap w4 hr4 hb4)
         go_roundg (8 - (4 + 1))
         case measure => omega
         case rel => exact ⟨4 + 1, rfl, by omega, by go_num, by rw [hnx.out]; exact hr4, hblH.out.trans (((Below.refl _ _).alloc (Nat.le_of_lt hltB.out) _).trans hb4)⟩
       . obtain ⟨x, hx⟩ : ∃ x, x = UInt8.ofNat (s.size * 8 / 2 ^ (8 * (7 - 5))) := ⟨_, rfl⟩
         have hxi := lh (show ((s.size : Int) * 8 / 65536) = (x.toNat : Int) from by rw [hx, UInt8.toNat_ofNat']; omega)
         rw [hsl.out, <- hx] at hnx
         clear hx
         go_wp2_with (at_builtin; refine wpList_rowB (by rfl) _ _ (by rfl) B _ (n0 + 5) _ x (by rfl) (hrH.out.keep ((Tch.refl _ _).alloc _)) ⟨wr.heap.size, 0, none⟩ 1 (by rfl) (cell1 wr _ _ hxi.out) (by omega) (by have := hltB.out; simp; omega) ?_; intro g cap w4 hr4 hb4)
         go_roundg (8 - (5 + 1))
         case measure => omega
         case rel => exact ⟨5 + 1, rfl, by omega, by go_num, by rw [hnx.out]; exact hr4, hblH.out.trans (((Below.refl _ _).alloc (Nat.le_of_lt hltB.out) _).trans hb4)⟩
       . obtain ⟨x, hx⟩ : ∃ x, x = UInt8.ofNat (s.size * 8 / 2 ^ (8 * (7 - 6))) := ⟨_, rfl⟩
         have hxi := lh (show (((s.size : Int) * 8 / 256) % 256) = (x.toNat : Int) from by rw [hx, UInt8.toNat_ofNat']; omega)
         rw [hsl.out, <- hx] at hnx
         clear hx
         go_wp2_with (at_builtin; refine wpList_rowB (by rfl) _ _ (by rfl) B _ (n0 + 6) _ x (by rfl) (hrH.out.keep ((Tch.refl _ _).alloc _)) ⟨wr.heap.size, 0, none⟩ 1 (by rfl) (cell1 wr _ _ hxi.out) (by omega) (by have := hltB.out; simp; omega) ?_; intro g cap w4 hr4 hb4)
         go_roundg (8 - (6 + 1))
         case measure => omega
         case rel => exact ⟨6 + 1, rfl, by omega, by go_num, by rw [hnx.out]; exact hr4, hblH.out.trans (((Below.refl _ _).alloc (Nat.le_of_lt hltB.out) _).trans hb4)⟩
       . obtain ⟨x, hx⟩ : ∃ x, x = UInt8.ofNat (s.size * 8 / 2 ^ (8 * (7 - 7))) := ⟨_, rfl⟩
         have hxi := lh (show ((s.size : Int) * 8 % 256) = (x.toNat : Int) from by rw [hx, UInt8.toNat_ofNat']; omega)
         rw [hsl.out, <- hx] at hnx
         clear hx
         go_wp2_with (at_builtin; refine wpList_rowB (by rfl) _ _ (by rfl) B _ (n0 + 7) _ x (by rfl) (hrH.out.keep ((Tch.refl _ _).alloc _)) ⟨wr.heap.size, 0, none⟩ 1 (by rfl) (cell1 wr _ _ hxi.out) (by omega) (by have := hltB.out; simp; omega) ?_; intro g cap w4 hr4 hb4)
         go_roundg (8 - (7 + 1))
         case measure => omega
         case rel => exact ⟨7 + 1, rfl, by omega, by go_num, by rw [hnx.out]; exact hr4, hblH.out.trans (((Below.refl _ _).alloc (Nat.le_of_lt hltB.out) _).trans hb4)⟩
     . have hj8 : j = 8 := by omega
       subst hj8
       rw [bl_end] at hr
       have hout := base_start hgh2 hgk1 (hB2.out ▸ hgk2) hgh1 ho1.out ht1.out ho2.out ht2.out hB2.out (by have := hbw.out; exact this) hbl hr
       have hn64 : (n0 + 8) % 64 = 0 := by have := hm.out; omega
       obtain ⟨hbase, hll⟩ := hout
       clear hr hbl
       obtain ⟨bs, hbs⟩ : ∃ bs, bs = s.data.toList ++ padding s.data.toList.length := ⟨_, rfl⟩
       rw [<- hbs] at hbase hll
       have hres := lh (show sha K H0 s = ⟨((runs K H0 bs).flatMap ofWord).toArray⟩ from by rw [hbs]; rfl)
       clear hbs
       have hst := lh (show Blk wr wr w gh ch bs 0 H0 from ⟨hbase.hown, rfl, Tch.refl _ _, rfl⟩)
       have hbH := lh hbase
       have hNl : n0 + 8 < 100200 := by omega
       clear hbase
       replace hll := lh hll
       generalize hwb : wr = wb at *
       replace hwb := lh hwb
       generalize n0 + 8 = N at *
       go_wp2_with fail
       have hmk : ∀ W : World, (Instr.makeSlice 135 (.int .i64 64) (.int .i64 64)).run Tryz.prog W = .ok (.slice (some ⟨W.heap.size, 0, none⟩) 64 64) (W.alloc (.cells (ucells zeros64) 138)) := by
        intro W
        have := Go.run_make_row' (P := Tryz.prog) 135 138 (.int .u32 0) 4 Tryz.underlying135 info32 rfl .i64 .i64 64 (by omega) (by omega) W
        rw [made_uc] at this
        exact this
       go_loopg [8] (N / 64) (fun g av W => ∃ (i : Nat) (hs : List (BitVec 32)), g = N / 64 - i /\ 64 * i <= N /\ av = .int .i64 (64 * (i : Int)) /\ Blk wb W w gh ch bs i hs)
       case atStart => exact ⟨0, H0, rfl, by omega, rfl, hst.out⟩
       case round =>
        clear hst
        obtain ⟨i, hs, hg, hi, rfl, hb⟩ := hrel
        subst hg
        by_cases hil : 64 * i < N
        . obtain ⟨x0, x1, x2, x3, x4, x5, x6, x7, rfl⟩ := eight hb.2.1
          have hi64 : 64 * i + 64 <= N := by omega
          have hili : 64 * (i : Int) < (N : Int) := by omega
          obtain ⟨blk, hblk⟩ : ∃ blk, blk = (bs.drop (64 * i)).take 64 := ⟨_, rfl⟩
          obtain ⟨full, hfull⟩ : ∃ full, full = sched (words blk) 48 := ⟨_, rfl⟩
          have hfl : full.length = 64 := by rw [hfull, sched_length, words_length]
          have hbb := lh (fun j (hj : j < 64) => blk_cell hbH.out hb.2.2.1 hblk hll.out (show 64 * i + 64 <= N from hi64) hj)
          have hst := lh (show Mk wr (wr.alloc (.cells (ucells zeros64) 138)) (sofar full 0) from ⟨by show _ = _; rw [heap_alloc_at]; simp [sofar, zeros64], (Below.refl _ _).alloc (Nat.le_refl _) _⟩)
          have hbH2 := lh hb
          have hF := lh hfull
          replace hfl := lh hfl
          replace hblk := lh hblk
          clear hb hfull
          generalize hW5 : wr = W5 at *
          replace hW5 := lh hW5
          go_wp2_with fail
          refine sched_loop _ _ N i blk full W5 _ hF.out hfl.out hi64 hNl hbb.out hst.out _ _ _ _ _ _ _ _ _ _ _ _ _ _ _ _ _ _ _ _ _ _ _ _ _ _ _ _ _ _ _ _ _ _ _ _ _ _ _ _ _ _ _ _ _ _ _ _ _ _ _ _ _ _ _ _ _ _ _ _ _ _ _ _ _ _ _ _ _ _ _ _ _ _ _ _ _ _ _ _ _ _ _ _ _ _ _ _ _ _ _ _ _ _ _ _ _ _ _ _ _ _ _ _ _ _ _ _ _ _ _ _ _ _ _ _ _ _ _ _ _ _ _ _ _ _ _ _ _ _ _ _ _ _ _ _ _ _ _ _ _ _ _ _ _ _ _ _ _ _ _ _ _ _ _ _ _ _ _ _ _ _ _ _ _ _ _ _ _ _ _ _ _ _ _ _ _ _ _ _ _ _ _ _ _ _ _ _ _ _ _ _ _ _ _ _ _ _ _ _ _ _ _ _ _ _ _ _ _ _ _ _ _ _ _ _ _ _ _ _ _ _ _ _ _ _ _ _ _ _ _ _ _ _ _ _ _ _ _ _ _ _ _ _ _ _ _ _ _ _ _ _ _ _ _ _ _ _ _ _ _ _ _ _ _ _ _ _ _ _ _ _ _ _ _ _ _ _ _ _ _ _ _ _ _ _ _ _ _ _ ?_
          . intro c11 c12 c13 c58 c59 c60 c61 c62 c63 c64 c65 c66 c67 c68 c69 c70 c71 c72 c73 c74 c75 c76 c77 c78 c79 c80 c81 c82 c83 c84 c85 c86 c87 c88 c89 c90 c91 c92 c93 c94 c95 c96 c97 c98 c99 c100 c101 c102 c103 c104 c105 c106 c107 c108 c109 c110 c111 c112 c113 c114 c115 c116 c117 c118 c119 c120 c121 c122 c123 c124 c125 c126 c127 c128 c129 c130 c131 c132 c133 c134 c135 c136 c137 c138 c139 c140 c141 wr hm
            clear hst hmk
            have hown := own_keep hbH2.out.1 (Tch.of_new hm.2)
            have hcs := own_eight hown
            obtain ⟨i3, hi3, hz3, hs3, hb3⟩ := info_parts info32
            have hmH := lh hm
            have hownH := lh hown
            clear hm hown hi64
            have hown0 := lh (own_empty wr)
            have hKc := lh (fun j (hj : j < 64) => (Tch.of_new (S := fun _ => False) hmH.out.2).cell (hbH2.out.2.2.1.cell (hbH.out.k j hj) hbH.out.ne1) (fun e => e))
            have hFc := lh (fun j (hj : j < 64) => mk_at hmH.out j (by rw [hfl.out]; exact hj))
            go_wp2_with (at_builtin; refine wpList_append_lies _ (by rfl) _ _ _ (by rfl) wr.heap.size 138 i3 _ 1 4 Tryz.underlying135 hi3 hz3 hs3 hb3 rfl (by omega) (.slice (some ⟨wr.heap.size, 0, none⟩) 0 0) 0 [] (by rfl) hown0.out ⟨gh, 0, none⟩ 8 ch [.int .u32 (nv x0), .int .u32 (nv x1), .int .u32 (nv x2), .int .u32 (nv x3), .int .u32 (nv x4), .int .u32 (nv x5), .int .u32 (nv x6), .int .u32 (nv x7)] (by rfl) (by rfl) (own_eight (hownH.out.alloc _)) (by simp [Value.oneCell']) (by omega) (by unfold maxLen; omega) (by omega) (by simp) (wr.heap.size + 1) (by simp) ?_; intro gv cv w6 hown6 hgrow6 hat6 hlt6)
            clear hcs
            have ht6 := own_tch (S := fun _ => False) ((Tch.refl _ wr).alloc _) hown0.out (Nat.le_refl _) hgrow6
            have hst6 := lh (show RowV wr.heap.size w6 (.slice (some ⟨gv, 0, none⟩) 8 cv) [x0, x1, x2, x3, x4, x5, x6, x7] from rowV_of hown6)
            have hKc6 := lh (fun j (hj : j < 64) => ht6.cell (hKc.out j hj) (fun e => e))
            have hFc6 := lh (fun j (hj : j < 64) => ht6.cell (hFc.out j hj) (fun e => e))
            have ht6H := lh ht6
            clear hown6 hgrow6 hat6 hlt6
            have hownW6 := lh (own_keep hownH.out ht6)
            have hT6 := lh ((hbH2.out.2.2.1.trans ((Tch.of_new (S := fun k => k = gh) hmH.out.2))).trans (ht6.mono fun _ h => h.elim))
            have hlo6 := lh (show wr.heap.size <= w6.heap.size from ht6.size)
            have hghlt := lh (show gh < wr.heap.size from (hownH.out.lt gh rfl).2)
            clear ht6
            generalize wr.heap.size = wv at hst6 hlo6 hghlt
            refine rounds_loop gk _ _ _ wv full x0 x1 x2 x3 x4 x5 x6 x7 w6 _ hlo6.out hst6.out hKc6.out hFc6.out _ _ _ _ _ _ _ _ _ _ _ _ _ _ _ _ _ _ _ _ _ _ _ _ _ _ _ _ _ _ _ _ _ _ _ _ _ _ _ _ _ _ _ _ _ _ _ _ _ _ _ _ _ _ _ _ _ _ _ _ _ _ _ _ _ _ _ _ _ _ _ _ _ _ _ _ _ _ _ _ _ _ _ _ _ _ _ _ _ _ _ _ _ _ _ _ _ _ _ _ _ _ _ _ _ _ _ _ _ _ _ _ _ _ _ _ _ _ _ _ _ _ _ _ _ _ _ _ _ _ _ _ _ _ _ _ _ _ _ _ _ _ _ _ _ _ _ _ _ _ _ _ _ _ _ _ _ _ _ _ _ _ _ _ _ _ _ _ _ _ _ _ _ _ _ _ _ _ _ _ _ _ _ _ _ _ _ _ _ _ _ _ _ _ _ _ _ _ _ _ _ _ _ _ _ _ _ _ _ _ _ _ _ _ _ _ _ _ _ _ _ _ _ _ _ _ _ _ _ _ _ _ _ _ _ _ _ _ _ _ _ _ _ _ _ _ _ _ _ _ _ _ _ _ _ _ _ _ _ _ _ _ _ _ _ _ _ _ _ _ _ _ _ _ _ _ _ _ _ _ _ _ _ _ _ _ _ _ _ _ ?_
            . intro c16 c17 c18 c19 c145 c146 c147 c148 c149 c150 c151 c152 c153 c154 c155 c156 c157 c158 c159 c160 c161 c162 c163 c164 c165 c166 c167 c168 c169 c170 c171 c172 c173 c174 c175 c176 c177 c178 c179 c180 c181 c182 c183 c184 c185 c186 c187 c188 c189 c190 c191 c192 c193 c194 c195 c196 c197 c198 c199 c200 c201 c202 c203 c204 c205 c206 c207 c208 c209 c210 c211 c212 c213 c214 c215 c216 c217 c218 c219 c220 c221 c222 c223 c224 c225 c226 c227 c228 c229 c230 c231 c232 c233 c234 c235 c236 c237 c238 c239 c240 c241 c242 c243 c244 v1 wr hr htc
              clear hst6 hKc hFc
              obtain ⟨y0, y1, y2, y3, y4, y5, y6, y7, hv⟩ := eight (rounds_length K full [x0, x1, x2, x3, x4, x5, x6, x7] rfl 64)
              rw [hv] at hr
              obtain ⟨gv, cv, rfl, hgvlo, hcv⟩ := hr
              have hne : ¬ gv = gh := by have := hghlt.out; omega
              have hown7 := own_keep hownW6.out htc
              have hT7 := lh (hT6.out.trans (htc.mono fun _ h => h.elim))
              have hvH := lh hv
              have hst7 := lh (show Hs w wr wr gh ch gv [x0, x1, x2, x3, x4, x5, x6, x7] [y0, y1, y2, y3, y4, y5, y6, y7] 0 from ⟨by rw [addTo_zero]; exact hown7, fun k hk => hcv k hk, Tch.refl _ _⟩)
              clear hcv hown7 hv htc
              generalize hW7 : wr = w7 at *
              replace hW7 := lh hW7
              go_wp2_with fail
              go_loopg [20] 8 (fun g i' W => ∃ j : Nat, g = 8 - j /\ j <= 8 /\ i' = .int .i64 j /\ Hs w w7 W gh ch gv [x0, x1, x2, x3, x4, x5, x6, x7] [y0, y1, y2, y3, y4, y5, y6, y7] j)
              case atStart => exact ⟨0, rfl, by omega, rfl, hst7.out⟩
              case round =>
               clear hst7
               obtain ⟨j, hg, hj, rfl, hh⟩ := hrel
               subst hg
               by_cases hjl : j < 8
               . have hji : (j : Int) < 8 := by omega
                 have hcx := hs_cell hh hjl
                 have hcy := hh.2.1 j hjl
                 have hfr := hh.1.frozenAt j
                 have hnx := lh (fun A hA n => hs_next (A := A) hh hjl hne hA n)
                 clear hh
                 generalize ([x0, x1, x2, x3, x4, x5, x6, x7] : List (BitVec 32)).getD j 0 = xj at *
                 generalize ([y0, y1, y2, y3, y4, y5, y6, y7] : List (BitVec 32)).getD j 0 = yj at *
                 go_wp2_with fail
                 go_region
                 go_wp2_with fail
                 go_roundg (8 - (j + 1))
                 case measure => omega
                 case rel => exact ⟨j + 1, rfl, by omega, by go_num, hnx.out _ (nv_add _ _) 1⟩
               . have hj8 : j = 8 := by omega
                 subst hj8
                 have hB := lh (blk_next (by rw [hll.out]; omega) hbH2.out.2.2.2 hblk.out (by rw [<- hF.out]; exact hvH.out) hT7.out hh)
                 clear hh
                 go_wp2_with fail
                 go_roundg (N / 64 - (i + 1))
                 case measure => omega
                 case rel => exact ⟨i + 1, _, rfl, by omega, by go_num, hB.out⟩
        . have hie : 64 * i = N := by omega
          have hili : ¬ 64 * (i : Int) < (N : Int) := by omega
          have hrun := lh (blk_end (by rw [hll.out]; omega) hb)
          have hownE := lh hb.1
          have hsl8 := lh hb.2.1
          have htE := lh (sum_tch hbH.out hb.2.2.1)
          clear hb
          go_wp2_with fail
          go_loopg [21, 22] 8 (fun g ov i' W => ∃ (j : Nat) (o : ByteArray), g = 8 - j /\ j <= 8 /\ ov = .string o /\ i' = .int .i64 j /\ o.data.toList = (hs.take j).flatMap ofWord /\ Tch (fun _ => False) wr W)
          case atStart => exact ⟨0, ⟨#[]⟩, rfl, by omega, rfl, rfl, rfl, Tch.refl _ _⟩
          case round =>
           obtain ⟨j, o, hg, hj, rfl, rfl, ho, ht⟩ := hrel
           subst hg
           by_cases hjl : j < 8
           . have hji : (j : Int) < 8 := by omega
             have hown := own_keep hownE.out ht
             have hc := hown.cellAt j (by omega)
             rw [uvs_get hs j (by rw [hsl8.out]; exact hjl)] at hc
             have hos : (o.size : Int) <= 32 := by
              have := congrArg List.length ho
              rw [len_list] at this
              have h2 := flat_le (hs.take j) 
              rw [List.length_take] at h2
              omega
             have hnx := lh (flat_next hsl8.out hjl)
             have hoH := lh ho
             have htH := lh ht
             clear hown ho ht
             generalize hs.getD j 0 = xj at *
             have hw4 : ((⟨(ofWord xj).toArray⟩ : ByteArray).size : Int) <= 4 := by show (((ofWord xj).toArray.size : Nat) : Int) <= 4; simp [ofWord]
             have hcvd := conv4h wr xj
             have hcal : (wr.alloc (.cells #[.int .u8 (IntKind.u8.wrap (nv xj / 16777216)), .int .u8 (IntKind.u8.wrap (nv xj / 65536)), .int .u8 (IntKind.u8.wrap (nv xj / 256)), .int .u8 (IntKind.u8.wrap (nv xj))] 5)).drew.cell? ⟨gh, j, none⟩ = some (.int .u32 (nv xj)) :=
              (World.cell?_alloc_lt _ _ _ (World.block_lt_of_cell? wr _ hc)).trans hc
             have hsum : (9223372036854775807 < o.size + (ofWord xj).length) = False := eq_false (by have : (ofWord xj).length = 4 := rfl; omega)
             go_wp2_with fail
             refine start_ (n := 28) (S := fun W => W.cell? ⟨gh, j, none⟩ = some (.int .u32 (nv xj))) (ds := []) #[false, false, false, false, false, false, false, false, false, false, false, false, false, false, false, false, false, false, false, false, false, false, false, false, false, false, false, false] (by kernel_rfl) rfl rfl ?_ (fun hHeld => ?_)
             . go_simp
             refine pure_ (i := 0) (N := some 265) (v := ?_) (a' := ?_) #[true, false, false, false, false, false, false, false, false, false, false, false, false, false, false, false, false, false, false, false, false, false, false, false, false, false, false, false] rfl rfl (by kernel_rfl) (fun _ _ _ h => h) (Or.inl ⟨by rfl, ?_⟩) ?_ ?_
             rotate_left
             . intro w'
               go_simp
               with_reducible rfl
             rotate_left
             . simp only [Act.put, List.setIfInBounds_toArray, List.set_cons_zero, List.set_cons_succ, i64_w, i32_w]
               rfl
             refine pure_ (i := 1) (N := some 266) (v := ?_) (a' := ?_) #[true, true, false, false, false, false, false, false, false, false, false, false, false, false, false, false, false, false, false, false, false, false, false, false, false, false, false, false] rfl rfl (by kernel_rfl) (fun _ _ _ h => h) (Or.inl ⟨by rfl, ?_⟩) ?_ ?_
             rotate_left
             . intro w'
               go_simp
               with_reducible rfl
             rotate_left
             . simp only [Act.put, List.setIfInBounds_toArray, List.set_cons_zero, List.set_cons_succ, i64_w, i32_w]
               rfl
             refine pure_ (i := 2) (N := some 267) (v := ?_) (a' := ?_) #[true, true, true, false, false, false, false, false, false, false, false, false, false, false, false, false, false, false, false, false, false, false, false, false, false, false, false, false] rfl rfl (by kernel_rfl) (fun _ _ _ h => h) (Or.inl ⟨by rfl, ?_⟩) ?_ ?_
             rotate_left
             . intro w'
               go_simp
               with_reducible rfl
             rotate_left
             . simp only [Act.put, List.setIfInBounds_toArray, List.set_cons_zero, List.set_cons_succ, i64_w, i32_w]
               rfl
             refine pure_ (i := 3) (N := some 268) (v := ?_) (a' := ?_) #[true, true, true, true, false, false, false, false, false, false, false, false, false, false, false, false, false, false, false, false, false, false, false, false, false, false, false, false] rfl rfl (by kernel_rfl) (fun _ _ _ h => h) (Or.inl ⟨by rfl, ?_⟩) ?_ ?_
             rotate_left
             . intro w'
               go_simp
               with_reducible rfl
             rotate_left
             . simp only [Act.put, List.setIfInBounds_toArray, List.set_cons_zero, List.set_cons_succ, i64_w, i32_w]
               rfl
             refine take_ (i := 4) (N := some 269) (v := ?_) (a' := ?_) #[true, true, true, true, true, false, false, false, false, false, false, false, false, false, false, false, false, false, false, false, false, false, false, false, false, false, false, false] rfl rfl (by kernel_rfl) (fun _ _ _ h => h) (Or.inl ⟨by rfl, ?_⟩) hHeld ?_ ?_
             rotate_left
             . intro w' hS'
               go_simp
               with_reducible rfl
             rotate_left
             . simp only [Act.put, List.setIfInBounds_toArray, List.set_cons_zero, List.set_cons_succ, i64_w, i32_w]
               rfl
             refine pure_ (i := 5) (N := some 270) (v := ?_) (a' := ?_) #[true, true, true, true, true, true, false, false, false, false, false, false, false, false, false, false, false, false, false, false, false, false, false, false, false, false, false, false] rfl rfl (by kernel_rfl) (fun _ _ _ h => h) (Or.inl ⟨by rfl, ?_⟩) ?_ ?_
             rotate_left
             . intro w'
               go_simp
               with_reducible rfl
             rotate_left
             . simp only [Act.put, List.setIfInBounds_toArray, List.set_cons_zero, List.set_cons_succ, i64_w, i32_w]
               rfl
             refine pure_ (i := 6) (N := some 271) (v := ?_) (a' := ?_) #[true, true, true, true, true, true, true, false, false, false, false, false, false, false, false, false, false, false, false, false, false, false, false, false, false, false, false, false] rfl rfl (by kernel_rfl) (fun _ _ _ h => h) (Or.inl ⟨by rfl, ?_⟩) ?_ ?_
             rotate_left
             . intro w'
               go_simp
               with_reducible rfl
             rotate_left
             . simp only [Act.put, List.setIfInBounds_toArray, List.set_cons_zero, List.set_cons_succ, i64_w, i32_w]
               rfl
             refine pure_ (i := 7) (N := some 272) (v := ?_) (a' := ?_) #[true, true, true, true, true, true, true, true, false, false, false, false, false, false, false, false, false, false, false, false, false, false, false, false, false, false, false, false] rfl rfl (by kernel_rfl) (fun _ _ _ h => h) (Or.inl ⟨by rfl, ?_⟩) ?_ ?_
             rotate_left
             . intro w'
               go_simp
               with_reducible rfl
             rotate_left
             . simp only [Act.put, List.setIfInBounds_toArray, List.set_cons_zero, List.set_cons_succ, i64_w, i32_w]
               rfl
             refine pure_ (i := 8) (N := some 273) (v := ?_) (a' := ?_) #[true, true, true, true, true, true, true, true, true, false, false, false, false, false, false, false, false, false, false, false, false, false, false, false, false, false, false, false] rfl rfl (by kernel_rfl) (fun _ _ _ h => h) (Or.inl ⟨by rfl, ?_⟩) ?_ ?_
             rotate_left
             . intro w'
               go_simp
               with_reducible rfl
             rotate_left
             . simp only [Act.put, List.setIfInBounds_toArray, List.set_cons_zero, List.set_cons_succ, i64_w, i32_w]
               rfl
             refine pure_ (i := 9) (N := some 274) (v := ?_) (a' := ?_) #[true, true, true, true, true, true, true, true, true, true, false, false, false, false, false, false, false, false, false, false, false, false, false, false, false, false, false, false] rfl rfl (by kernel_rfl) (fun _ _ _ h => h) (Or.inl ⟨by rfl, ?_⟩) ?_ ?_
             rotate_left
             . intro w'
               go_simp
               with_reducible rfl
             rotate_left
             . simp only [Act.put, List.setIfInBounds_toArray, List.set_cons_zero, List.set_cons_succ, i64_w, i32_w]
               rfl
             refine take_ (i := 10) (N := some 275) (v := ?_) (a' := ?_) #[true, true, true, true, true, true, true, true, true, true, true, false, false, false, false, false, false, false, false, false, false, false, false, false, false, false, false, false] rfl rfl (by kernel_rfl) (fun _ _ _ h => h) (Or.inl ⟨by rfl, ?_⟩) hHeld ?_ ?_
             rotate_left
             . intro w' hS'
               go_simp
               with_reducible rfl
             rotate_left
             . simp only [Act.put, List.setIfInBounds_toArray, List.set_cons_zero, List.set_cons_succ, i64_w, i32_w]
               rfl
             refine pure_ (i := 11) (N := some 276) (v := ?_) (a' := ?_) #[true, true, true, true, true, true, true, true, true, true, true, true, false, false, false, false, false, false, false, false, false, false, false, false, false, false, false, false] rfl rfl (by kernel_rfl) (fun _ _ _ h => h) (Or.inl ⟨by rfl, ?_⟩) ?_ ?_
             rotate_left
             . intro w'
               go_simp
               with_reducible rfl
             rotate_left
             . simp only [Act.put, List.setIfInBounds_toArray, List.set_cons_zero, List.set_cons_succ, i64_w, i32_w]
               rfl
             refine pure_ (i := 12) (N := some 277) (v := ?_) (a' := ?_) #[true, true, true, true, true, true, true, true, true, true, true, true, true, false, false, false, false, false, false, false, false, false, false, false, false, false, false, false] rfl rfl (by kernel_rfl) (fun _ _ _ h => h) (Or.inl ⟨by rfl, ?_⟩) ?_ ?_
             rotate_left
             . intro w'
               go_simp
               with_reducible rfl
             rotate_left
             . simp only [Act.put, List.setIfInBounds_toArray, List.set_cons_zero, List.set_cons_succ, i64_w, i32_w]
               rfl
             refine pure_ (i := 13) (N := some 278) (v := ?_) (a' := ?_) #[true, true, true, true, true, true, true, true, true, true, true, true, true, true, false, false, false, false, false, false, false, false, false, false, false, false, false, false] rfl rfl (by kernel_rfl) (fun _ _ _ h => h) (Or.inl ⟨by rfl, ?_⟩) ?_ ?_
             rotate_left
             . intro w'
               go_simp
               with_reducible rfl
             rotate_left
             . simp only [Act.put, List.setIfInBounds_toArray, List.set_cons_zero, List.set_cons_succ, i64_w, i32_w]
               rfl
             refine pure_ (i := 14) (N := some 279) (v := ?_) (a' := ?_) #[true, true, true, true, true, true, true, true, true, true, true, true, true, true, true, false, false, false, false, false, false, false, false, false, false, false, false, false] rfl rfl (by kernel_rfl) (fun _ _ _ h => h) (Or.inl ⟨by rfl, ?_⟩) ?_ ?_
             rotate_left
             . intro w'
               go_simp
               with_reducible rfl
             rotate_left
             . simp only [Act.put, List.setIfInBounds_toArray, List.set_cons_zero, List.set_cons_succ, i64_w, i32_w]
               rfl
             refine pure_ (i := 15) (N := some 280) (v := ?_) (a' := ?_) #[true, true, true, true, true, true, true, true, true, true, true, true, true, true, true, true, false, false, false, false, false, false, false, false, false, false, false, false] rfl rfl (by kernel_rfl) (fun _ _ _ h => h) (Or.inl ⟨by rfl, ?_⟩) ?_ ?_
             rotate_left
             . intro w'
               go_simp
               with_reducible rfl
             rotate_left
             . simp only [Act.put, List.setIfInBounds_toArray, List.set_cons_zero, List.set_cons_succ, i64_w, i32_w]
               rfl
             refine take_ (i := 16) (N := some 281) (v := ?_) (a' := ?_) #[true, true, true, true, true, true, true, true, true, true, true, true, true, true, true, true, true, false, false, false, false, false, false, false, false, false, false, false] rfl rfl (by kernel_rfl) (fun _ _ _ h => h) (Or.inl ⟨by rfl, ?_⟩) hHeld ?_ ?_
             rotate_left
             . intro w' hS'
               go_simp
               with_reducible rfl
             rotate_left
             . simp only [Act.put, List.setIfInBounds_toArray, List.set_cons_zero, List.set_cons_succ, i64_w, i32_w]
               rfl
             refine pure_ (i := 17) (N := some 282) (v := ?_) (a' := ?_) #[true, true, true, true, true, true, true, true, true, true, true, true, true, true, true, true, true, true, false, false, false, false, false, false, false, false, false, false] rfl rfl (by kernel_rfl) (fun _ _ _ h => h) (Or.inl ⟨by rfl, ?_⟩) ?_ ?_
             rotate_left
             . intro w'
               go_simp
               with_reducible rfl
             rotate_left
             . simp only [Act.put, List.setIfInBounds_toArray, List.set_cons_zero, List.set_cons_succ, i64_w, i32_w]
               rfl
             refine pure_ (i := 18) (N := some 283) (v := ?_) (a' := ?_) #[true, true, true, true, true, true, true, true, true, true, true, true, true, true, true, true, true, true, true, false, false, false, false, false, false, false, false, false] rfl rfl (by kernel_rfl) (fun _ _ _ h => h) (Or.inl ⟨by rfl, ?_⟩) ?_ ?_
             rotate_left
             . intro w'
               go_simp
               with_reducible rfl
             rotate_left
             . simp only [Act.put, List.setIfInBounds_toArray, List.set_cons_zero, List.set_cons_succ, i64_w, i32_w]
               rfl
             refine pure_ (i := 19) (N := some 284) (v := ?_) (a' := ?_) #[true, true, true, true, true, true, true, true, true, true, true, true, true, true, true, true, true, true, true, true, false, false, false, false, false, false, false, false] rfl rfl (by kernel_rfl) (fun _ _ _ h => h) (Or.inl ⟨by rfl, ?_⟩) ?_ ?_
             rotate_left
             . intro w'
               go_simp
               with_reducible rfl
             rotate_left
             . simp only [Act.put, List.setIfInBounds_toArray, List.set_cons_zero, List.set_cons_succ, i64_w, i32_w]
               rfl
             refine pure_ (i := 20) (N := some 285) (v := ?_) (a' := ?_) #[true, true, true, true, true, true, true, true, true, true, true, true, true, true, true, true, true, true, true, true, true, false, false, false, false, false, false, false] rfl rfl (by kernel_rfl) (fun _ _ _ h => h) (Or.inl ⟨by rfl, ?_⟩) ?_ ?_
             rotate_left
             . intro w'
               go_simp
               with_reducible rfl
             rotate_left
             . simp only [Act.put, List.setIfInBounds_toArray, List.set_cons_zero, List.set_cons_succ, i64_w, i32_w]
               rfl
             refine pure_ (i := 21) (N := some 286) (v := ?_) (a' := ?_) #[true, true, true, true, true, true, true, true, true, true, true, true, true, true, true, true, true, true, true, true, true, true, false, false, false, false, false, false] rfl rfl (by kernel_rfl) (fun _ _ _ h => h) (Or.inl ⟨by rfl, ?_⟩) ?_ ?_
             rotate_left
             . intro w'
               go_simp
               with_reducible rfl
             rotate_left
             . simp only [Act.put, List.setIfInBounds_toArray, List.set_cons_zero, List.set_cons_succ, i64_w, i32_w]
               rfl
             refine take_ (i := 22) (N := some 287) (v := ?_) (a' := ?_) #[true, true, true, true, true, true, true, true, true, true, true, true, true, true, true, true, true, true, true, true, true, true, true, false, false, false, false, false] rfl rfl (by kernel_rfl) (fun _ _ _ h => h) (Or.inl ⟨by rfl, ?_⟩) hHeld ?_ ?_
             rotate_left
             . intro w' hS'
               go_simp
               with_reducible rfl
             rotate_left
             . simp only [Act.put, List.setIfInBounds_toArray, List.set_cons_zero, List.set_cons_succ, i64_w, i32_w]
               rfl
             refine pure_ (i := 23) (N := some 288) (v := ?_) (a' := ?_) #[true, true, true, true, true, true, true, true, true, true, true, true, true, true, true, true, true, true, true, true, true, true, true, true, false, false, false, false] rfl rfl (by kernel_rfl) (fun _ _ _ h => h) (Or.inl ⟨by rfl, ?_⟩) ?_ ?_
             rotate_left
             . intro w'
               go_simp
               with_reducible rfl
             rotate_left
             . simp only [Act.put, List.setIfInBounds_toArray, List.set_cons_zero, List.set_cons_succ, i64_w, i32_w]
               rfl
             refine one_ (i := 24) (N := some 289) #[true, true, true, true, true, true, true, true, true, true, true, true, true, true, true, true, true, true, true, true, true, true, true, true, true, false, false, false] rfl rfl (by kernel_rfl) (by decide) (fun K hK => ?_)
             refine value_ (v := .slice (some ⟨wr.heap.size, 0, none⟩) 4 4) (w1 := (wr.alloc (.cells #[.int .u8 (IntKind.u8.wrap (nv xj / 16777216)), .int .u8 (IntKind.u8.wrap (nv xj / 65536)), .int .u8 (IntKind.u8.wrap (nv xj / 256)), .int .u8 (IntKind.u8.wrap (nv xj))] 5)).drew) (by rfl) rfl ?_ ?_
             . go_simp
             refine hK.out _ _ ?_ (fun hHeld => ?_)
             . exact hcal
             clear hK K
             refine norm_ (a' := ?_) ?_ ?_
             rotate_left
             . show Act.put _ (some 289) _ = _
               simp only [Act.put, List.setIfInBounds_toArray, List.set_cons_zero, List.set_cons_succ, i64_w, i32_w]
               rfl
             refine one_ (i := 25) (N := some 290) #[true, true, true, true, true, true, true, true, true, true, true, true, true, true, true, true, true, true, true, true, true, true, true, true, true, true, false, false] rfl rfl (by kernel_rfl) (by decide) (fun K hK => ?_)
             refine value_ (v := .string ⟨(ofWord xj).toArray⟩) (w1 := (wr.alloc (.cells #[.int .u8 (IntKind.u8.wrap (nv xj / 16777216)), .int .u8 (IntKind.u8.wrap (nv xj / 65536)), .int .u8 (IntKind.u8.wrap (nv xj / 256)), .int .u8 (IntKind.u8.wrap (nv xj))] 5)).drew) (by rfl) rfl ?_ ?_
             . first | (go_simp; done) | (go_simp; rw [hcvd]; rfl) | (go_simp; simp only [hcvd]; rfl)
             refine hK.out _ _ ?_ (fun hHeld => ?_)
             . exact hcal
             clear hK K
             refine norm_ (a' := ?_) ?_ ?_
             rotate_left
             . show Act.put _ (some 290) _ = _
               simp only [Act.put, List.setIfInBounds_toArray, List.set_cons_zero, List.set_cons_succ, i64_w, i32_w]
               rfl
             refine pure_ (i := 26) (N := some 291) (v := ?_) (a' := ?_) #[true, true, true, true, true, true, true, true, true, true, true, true, true, true, true, true, true, true, true, true, true, true, true, true, true, true, true, false] rfl rfl (by kernel_rfl) (fun _ _ _ h => h) (Or.inl ⟨by rfl, ?_⟩) ?_ ?_
             rotate_left
             . intro w'
               go_simp
               with_reducible rfl
             rotate_left
             . simp only [Act.put, List.setIfInBounds_toArray, List.set_cons_zero, List.set_cons_succ, i64_w, i32_w]
               rfl
             refine pure_ (i := 27) (N := some 21) (v := ?_) (a' := ?_) #[true, true, true, true, true, true, true, true, true, true, true, true, true, true, true, true, true, true, true, true, true, true, true, true, true, true, true, true] rfl rfl (by kernel_rfl) (fun _ _ _ h => h) (Or.inl ⟨by rfl, ?_⟩) ?_ ?_
             rotate_left
             . intro w'
               go_simp
               with_reducible rfl
             rotate_left
             . simp only [Act.put, List.setIfInBounds_toArray, List.set_cons_zero, List.set_cons_succ, i64_w, i32_w]
               rfl
             refine done_ (by kernel_rfl) ?_
             go_wp2_with fail
             go_roundg (8 - (j + 1))
             case measure => omega
             case rel => exact ⟨j + 1, _, rfl, by omega, rfl, by go_num, by rw [hnx.out, ByteArray.data_append, Array.toList_append, hoH.out], (htH.out.alloc _).drew⟩
           . have hj8 : j = 8 := by omega
             subst hj8
             rw [List.take_of_length_le (by rw [hsl8.out]; omega)] at ho
             have hfin := lh (show sha K H0 s = o from by rw [hres.out, hrun.out, <- ho])
             have htH := lh (htE.out.trans ht)
             clear ho ht
             go_wp2_with fail
             go_ret
             exact ⟨by rw [hfin.out]; rfl, htH.out⟩
end Go.Proofs.YtbiioaggilaebaaGreatDoor.Ref
namespace Go.Proofs.YtbiioaggilaebaaGreatDoor.Dig
open Go Go.RowKit B Sha
theorem rHex_any (b : ByteArray) (hsz : b.size <= 70368744177664) (w : World) :
 Calls Tryz.prog 50 #[.string b] w fun e w' => e = .returned (.string ⟨(hexL b.data.toList).toArray⟩) /\ Tch (fun _ => False) w w' := by
 have hszi : (b.size : Int) <= 70368744177664 := by omega
 have hsz := lh hsz
 have hown0 := lh (own_nil w w.heap.size)
 obtain ⟨i8, hi8, hz8, hs8, hb8⟩ := info8
 go_enter Tryz.func50, Tryz.ntmps50
 go_wp2_with fail
 go_loopg [4, 5] b.size (fun g v i W => ∃ j : Nat, g = b.size - j /\ j <= b.size /\ i = .int .i64 j /\ W.ownsRow w.heap.size 5 1 v (j * 2) (bc (hexL (b.data.toList.take j))) /\ Tch (fun _ => False) w W)
 case atStart => exact ⟨0, rfl, by omega, rfl, hown0.out, Tch.refl _ _⟩
 case round =>
  clear hown0
  obtain ⟨j, hgj, hj, rfl, ho, ht⟩ := hrel
  subst hgj
  by_cases hjl : j < b.size
  . have hix := fun (W : World) => str_idx (P := Tryz.prog) Tryz.underlying9 b j hjl W
    have hji : (j : Int) < (b.size : Int) := by omega
    have hoH := lh ho
    have htH := lh ht
    clear ho ht
    generalize hc : b.data.toList.getD j 0 = c at hix
    replace hc := lh hc
    obtain ⟨n, hn⟩ : ∃ n : Int, (c.toNat : Int) = n := ⟨_, rfl⟩
    simp only [hn] at hix
    have hnn : (0 : Int) <= n := by omega
    have hnm : n <= 255 := by have := c.toNat_lt; omega
    obtain ⟨q, hq⟩ : ∃ q : Int, IntKind.u8.wrap (n.tdiv 16) = q := ⟨_, rfl⟩
    obtain ⟨r, hr⟩ : ∃ r : Int, n.tmod 16 = r := ⟨_, rfl⟩
    have hqn : q = n / 16 := by rw [<- hq, IntKind.wrap_u8, Int.tdiv_eq_ediv_of_nonneg hnn]; omega
    have hrn : r = n % 16 := by rw [<- hr, Int.tmod_eq_emod_of_nonneg hnn]
    have hn0 : (0 : Int) <= q := by omega
    have hn1 : q < 16 := by omega
    have hn3 : (0 : Int) <= r := by omega
    have hn4 : r < 16 := by omega
    replace hqn := lh hqn
    replace hrn := lh hrn
    replace hn := lh hn
    have hnx : ∀ (w2 : World) (v : Value) (news : List Value), w2.ownsRow w.heap.size 5 1 v (j * 2 + 2) (bc (hexL (b.data.toList.take j)) ++ news) -> news = bc [dig (c.toNat / 16), dig (c.toNat % 16)] ->
     w2.ownsRow w.heap.size 5 1 v ((j + 1) * 2) (bc (hexL (b.data.toList.take (j + 1)))) := by
     intro w2 v news h1 h2
     subst h2
     rw [hex_next j (by rw [len_list]; exact hjl), hc.out, bc_append, show (j + 1) * 2 = j * 2 + 2 from by omega]; exact h1
    have hfin := lh hnx
    clear hnx
    go_wp2_with fail
    go_region_law
     ((refine step_append_lies _ (by rfl) _ _ _ (by rfl) w.heap.size 5 i8 _ 1 1 Tryz.underlying69 hi8 hz8 hs8 hb8 rfl (by omega) u4 (j * 2) _ (by rfl) (hoH.out.alloc _).drew ⟨wr.heap.size, 0, none⟩ 2 2 _ (by rfl) (by rfl) (World.news_of_block (heap_alloc_at wr _)) (by simp [Value.oneCell']) (by omega) (by unfold maxLen; have := hsz.out; omega) (by have := hsz.out; omega) (by have := htH.out.size; simp; omega) (wr.heap.size + 1) (by simp) ?_; intro g cap2 w2 hown1 hgrow hat hlt))
    all_goals (try go_wp2_with fail)
    all_goals go_roundg (b.size - (j + 1))
    all_goals first | omega | exact ⟨j + 1, rfl, by omega, by go_num, hfin.out _ _ _ hown1 (by simp only [bc, List.map_cons, List.map_nil, digat]; rw [show q.toNat = c.toNat / 16 from by have := hn.out; have := hqn.out; omega, show r.toNat = c.toNat % 16 from by have := hn.out; have := hrn.out; omega]), own_tch (htH.out.alloc _) (hoH.out.alloc _) (Nat.le_refl _) (undrew hgrow)⟩
  . have hji : ¬ (j : Int) < (b.size : Int) := by omega
    obtain rfl : j = b.size := by omega
    rw [List.take_of_length_le (by rw [len_list]; exact Nat.le_refl _), <- hexL_len' b] at ho
    have hcv := own_conv _ _ _ _ ho
    have htH := lh ht
    clear ho ht
    generalize hout : (⟨(hexL b.data.toList).toArray⟩ : ByteArray) = out at hcv
    replace hout := lh hout
    go_wp2_with fail
    go_ret
    exact ⟨by rw [hout.out]; rfl, htH.out.mono fun _ h => h⟩
end Go.Proofs.YtbiioaggilaebaaGreatDoor.Dig
