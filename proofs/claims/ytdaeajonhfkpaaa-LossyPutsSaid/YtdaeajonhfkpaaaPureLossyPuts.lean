/- The pure law of LossyPuts. Conditions: none. -/
import Derived.Test.YtdaeajonhfkpaaaPe
