/- The pure law of LossyTells. Conditions: none. -/
import Derived.Test.YtdaeajonhfkpaaaPe
