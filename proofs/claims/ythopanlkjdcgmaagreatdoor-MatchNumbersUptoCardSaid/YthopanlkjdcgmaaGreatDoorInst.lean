/- The syntaxes, number by number (without names, times and lists of lines). -/
import Derived.Test.YthopanlkjdcgmaaGreatDoorNorm
namespace Go.Proofs.YthopanlkjdcgmaaGreatDoor.W
open Go.RowKit Go.Proofs.YthopanlkjdcgmaaGreatDoor.Plain

theorem small {s : ByteArray} (h : s.size ≤ 1073741824) : s.size ≤ 140737488351232 := by omega
theorem k_text : NKind 1 263 228 nText := ⟨fun w hg => of_at 1 1 _ rfl (by omega) rfl w hg, fun _ _ => by kernel_rfl, enters_of Tryz.func228 (by kernel_rfl) rfl, fun s w hs _ => text_any s w (small hs)⟩
theorem k_exact : NKind 2 261 220 nExact := ⟨fun w hg => of_at 2 2 _ rfl (by omega) rfl w hg, fun _ _ => by kernel_rfl, enters_of Tryz.func220 (by kernel_rfl) rfl, fun s w hs _ => exact_any s w (small hs)⟩
theorem k_ia5 : NKind 3 268 235 nLowF := ⟨fun w hg => of_at 3 3 _ rfl (by omega) rfl w hg, fun _ _ => by kernel_rfl, enters_of Tryz.func235 (by kernel_rfl) rfl, fun s w hs _ => lowF_any s w (small hs)⟩
theorem k_ia5x : NKind 4 266 230 nLow := ⟨fun w hg => of_at 4 4 _ rfl (by omega) rfl w hg, fun _ _ => by kernel_rfl, enters_of Tryz.func230 (by kernel_rfl) rfl, fun s w hs _ => low_any s w (small hs)⟩
theorem k_num : NKind 5 269 237 nNum := ⟨fun w hg => of_at 5 5 _ rfl (by omega) rfl w hg, fun _ _ => by kernel_rfl, enters_of Tryz.func237 (by kernel_rfl) rfl, fun s w hs hg => num_any s w hs hg⟩
theorem k_phone : NKind 6 270 243 nPhone := ⟨fun w hg => of_at 6 6 _ rfl (by omega) rfl w hg, fun _ _ => by kernel_rfl, enters_of Tryz.func243 (by kernel_rfl) rfl, fun s w hs hg => phone_any s w hs hg⟩
theorem k_int : NKind 7 78 49 nInt := ⟨fun w hg => of_at 7 7 _ rfl (by omega) rfl w hg, fun _ _ => by kernel_rfl, enters_of Tryz.func49 (by kernel_rfl) rfl, fun s w hs _ => int_any s w hs⟩
theorem k_bool : NKind 8 271 248 nBool := ⟨fun w hg => of_at 8 8 _ rfl (by omega) rfl w hg, fun _ _ => by kernel_rfl, enters_of Tryz.func248 (by kernel_rfl) rfl, fun s w _ _ => bool_any s w⟩
theorem k_octet : NKind 9 272 249 nOctet := ⟨fun w hg => of_at 9 9 _ rfl (by omega) rfl w hg, fun _ _ => by kernel_rfl, enters_of Tryz.func249 (by kernel_rfl) rfl, fun s w _ _ => octet_any s w⟩
theorem k_oid : NKind 11 274 253 nOid := ⟨fun w hg => of_at 11 11 _ rfl (by omega) rfl w hg, fun _ _ => by kernel_rfl, enters_of Tryz.func253 (by kernel_rfl) rfl, fun s w hs hg => oid_any s w hs hg⟩

end Go.Proofs.YthopanlkjdcgmaaGreatDoor.W
