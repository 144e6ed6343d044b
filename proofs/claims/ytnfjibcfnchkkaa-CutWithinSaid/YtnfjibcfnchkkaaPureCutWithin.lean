/- The pure law of the cut: Within. Conditions: none. -/
import Derived.Test.YtnfjibcfnchkkaaPe
